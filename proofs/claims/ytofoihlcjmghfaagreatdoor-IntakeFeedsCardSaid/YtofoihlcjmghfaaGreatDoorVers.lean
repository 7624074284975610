/-
  Contracts.
-/
import Derived.Test.YtofoihlcjmghfaaGreatDoorStr
import Derived.Test.YtofoihlcjmghfaaGreatDoorAbStep
import Derived.Test.YtofoihlcjmghfaaGreatDoorProg
import Derived.IntWalk
import Derived.KernelRfl
set_option linter.unusedSimpArgs false
set_option linter.unusedVariables false
set_option linter.unusedSectionVars false
namespace Go.Proofs.YtofoihlcjmghfaaGreatDoor.vers
open Go Go.Ab Go.Proofs Go.RowKit Go.Proofs.YtofoihlcjmghfaaGreatDoor.str
variable [Inhabited TabBox]
variable [Nonempty GF]
variable [Nonempty GE]
set_option maxRecDepth 100000
attribute [local simp] s_ops s_seq s_cond s_cond_t s_cond_f s_block s_exit s_ret s_skip s_then_n s_then_n' s_then_e s_then_e' s_then_r s_then_r' s_block_n s_block_r s_block_e s_post_r s_post_n s_res0 s_res1 s_res2 s_res3 s_res4 s_nil s_cons s_guard s_guard_tt s_guard_ff s_guard_tf s_guard_ft s_guard_u s_call s_kL s_put s_put0 s_set s_tmp s_const s_func s_glob s_init s_mkF s_mkF0 s_mv s_bin s_pick s_op aop oK_some oK_none bK_some bK_none b_add b_sub b_mul b_quo b_rem b_and b_or b_xor b_andNot b_shl b_shr b_eql b_neq b_lss b_leq b_gtr b_geq b_sadd b_seql b_sneq b_slss b_sleq b_sgtr b_sgeq s_draw s_drawT s_tK s_tT s_tF s_tB s_tR s_stage s_stage0 s_kW s_kR s_rc0 s_rc s_rcg rK_some rK_none rG_b rG_u s_callv s_callv_f s_nextM s_postR_r s_postR_n s_resA0 s_resAt s_resAc s_resC s_tup0 s_tup1 s_tup2 s_tup3
def c155 : AC := .seq (.ops [⟨some 2,none,.mv (.const (.string ⟨⟨[]⟩⟩))⟩]) (.seq (.seq (.ops [⟨some 4,none,.mv (.tmp 0)⟩,⟨some 5,none,.lenS true (.tmp 4)⟩,⟨some 6,none,.bin .eql (.tmp 5) (.const (.int .i64 0))⟩]) (.cond (.tmp 6) (.seq (.ops [⟨some 2,none,.mv (.const (.string ⟨⟨[]⟩⟩))⟩]) .ret) .skip)) (.seq (.ops [⟨some 7,none,.mv (.tmp 0)⟩,⟨some 8,none,.lenS true (.tmp 7)⟩,⟨some 9,none,.mkSlT 5 [.int .u8 0] 1 (.tmp 8) (.tmp 8)⟩,⟨some 3,none,.mv (.tmp 9)⟩]) (.seq (.ops [⟨some 10,none,.mv (.tmp 3)⟩,⟨some 11,none,.mv (.tmp 0)⟩,⟨some 12,none,.copy 1 (.tmp 10) (.tmp 11)⟩]) (.seq (.ops [⟨some 13,none,.mv (.tmp 3)⟩,⟨some 14,none,.iAddrS 1 (.tmp 13) (.const (.int .i64 0))⟩,⟨some 15,none,.mv (.tmp 3)⟩,⟨some 16,none,.lenS false (.tmp 15)⟩,⟨some 17,none,.ustr 5 (.tmp 14) (.tmp 16)⟩,⟨some 2,none,.mv (.tmp 17)⟩]) .ret))))
theorem k155 : compF Tryz.prog Tryz.f155 = some (c155, [2]) := by kernel_rfl
theorem n155 : Tryz.f155.ntmps = 18 := by kernel_rfl
def c121 : AC := .seq (.ops [⟨some 4,none,.mv (.const (.pointer none))⟩]) (.seq (.draw [([⟨some 5,none,.mv (.tmp 0)⟩,⟨some 6,none,.mv (.tmp 1)⟩,⟨some 8,none,.load none (.global 3)⟩],[⟨some 7,none,.call 155 [.tmp 6]⟩],[⟨some 8,none,.load none (.global 3)⟩]),([⟨some 9,none,.build [.string ⟨⟨[]⟩⟩,.string ⟨⟨[]⟩⟩,.nilIface] [(0,1,.tmp 5),(1,1,.tmp 7),(2,1,.tmp 8)]⟩],[⟨some 10,none,.box (.tmp 9)⟩],[]),([⟨some 4,none,.mv (.tmp 10)⟩],[],[])]) .ret)
theorem k121 : compF Tryz.prog Tryz.f121 = some (c121, [4]) := by kernel_rfl
theorem n121 : Tryz.f121.ntmps = 11 := by kernel_rfl
def c122 : AC := .seq (.ops [⟨some 4,none,.mv (.const (.pointer none))⟩]) (.seq (.draw [([⟨some 5,none,.mv (.tmp 0)⟩,⟨some 6,none,.mv (.tmp 1)⟩,⟨some 8,none,.load none (.global 4)⟩],[⟨some 7,none,.call 155 [.tmp 6]⟩],[⟨some 8,none,.load none (.global 4)⟩]),([⟨some 9,none,.build [.string ⟨⟨[]⟩⟩,.string ⟨⟨[]⟩⟩,.nilIface] [(0,1,.tmp 5),(1,1,.tmp 7),(2,1,.tmp 8)]⟩],[⟨some 10,none,.box (.tmp 9)⟩],[]),([⟨some 4,none,.mv (.tmp 10)⟩],[],[])]) .ret)
theorem k122 : compF Tryz.prog Tryz.f122 = some (c122, [4]) := by kernel_rfl
theorem n122 : Tryz.f122.ntmps = 11 := by kernel_rfl
def c88 : AC := .seq (.ops [⟨some 10,none,.mv (.const .nilIface)⟩]) (.seq (.seq (.ops [⟨some 11,none,.mv (.tmp 4)⟩]) (.block 0 (.seq (.ops [⟨some 13,none,.mkI 174 (.const (.int .i64 2))⟩,⟨some 14,none,.eqi false [2,3,5,6,12,21,39,110,112,162,174,214,243,244,246,247] (.tmp 11) (.tmp 13)⟩,⟨some 12,none,.mv (.tmp 14)⟩]) (.cond (.tmp 12) (.seq (.ops [⟨some 15,none,.mv (.tmp 0)⟩,⟨some 16,none,.mv (.tmp 1)⟩,⟨some 17,none,.call 121 [.tmp 15,.tmp 16]⟩,⟨some 18,none,.mkI 177 (.tmp 17)⟩,⟨some 10,none,.mv (.tmp 18)⟩]) .ret) (.seq (.ops [⟨some 20,none,.mkI 174 (.const (.int .i64 1))⟩,⟨some 21,none,.eqi false [2,3,5,6,12,21,39,110,112,162,174,214,243,244,246,247] (.tmp 11) (.tmp 20)⟩,⟨some 19,none,.mv (.tmp 21)⟩]) (.cond (.tmp 19) (.seq (.ops [⟨some 22,none,.mv (.tmp 0)⟩,⟨some 23,none,.mv (.tmp 1)⟩,⟨some 24,none,.call 122 [.tmp 22,.tmp 23]⟩,⟨some 25,none,.mkI 177 (.tmp 24)⟩,⟨some 10,none,.mv (.tmp 25)⟩]) .ret) (.seq (.ops [⟨some 27,none,.mkI 174 (.const (.int .i64 3))⟩,⟨some 28,none,.eqi false [2,3,5,6,12,21,39,110,112,162,174,214,243,244,246,247] (.tmp 11) (.tmp 27)⟩,⟨some 26,none,.mv (.tmp 28)⟩]) (.cond (.tmp 26) (.seq (.ops [⟨some 29,none,.mv (.tmp 0)⟩,⟨some 30,none,.mv (.tmp 1)⟩,⟨some 31,none,.mv (.tmp 2)⟩,⟨some 32,none,.call 123 [.tmp 29,.tmp 30,.tmp 31]⟩,⟨some 33,none,.mkI 177 (.tmp 32)⟩,⟨some 10,none,.mv (.tmp 33)⟩]) .ret) (.seq (.ops [⟨some 35,none,.mkI 174 (.const (.int .i64 4))⟩,⟨some 36,none,.eqi false [2,3,5,6,12,21,39,110,112,162,174,214,243,244,246,247] (.tmp 11) (.tmp 35)⟩,⟨some 34,none,.mv (.tmp 36)⟩]) (.cond (.tmp 34) (.seq (.ops [⟨some 37,none,.mv (.tmp 0)⟩,⟨some 38,none,.mv (.tmp 1)⟩,⟨some 39,none,.mv (.tmp 3)⟩,⟨some 40,none,.call 124 [.tmp 37,.tmp 38,.tmp 39]⟩,⟨some 41,none,.mkI 177 (.tmp 40)⟩,⟨some 10,none,.mv (.tmp 41)⟩]) .ret) .skip)))))))))) (.seq (.ops [⟨some 42,none,.mv (.tmp 4)⟩,⟨some 10,none,.mv (.tmp 42)⟩]) .ret))
theorem k88 : compF Tryz.prog Tryz.f88 = some (c88, [10]) := by kernel_rfl
theorem n88 : Tryz.f88.ntmps = 43 := by kernel_rfl
theorem clone_ok (l : List UInt8) (hl : l.length ≤ 1000000) (h : Heap) : ACalls Tryz.prog 155 [.string (bs l)] h fun v h' => v = .string (bs l) ∧ h' = h := by
  refine ACalls.same .string (acalls_of mix Tryz.func155 k155 n155 (by simp) fun hcl hb => ?_)
  by_cases h0 : l = []
  · subst h0
    have hs0 : (bs []).size = 0 := rfl
    simp [c155, hs0, bs_lit]
    exact Heap.Ext.refl h
  · have hlp : 0 < l.length := by cases l with | nil => exact absurd rfl h0 | cons a b => simp
    have hl1 : ¬ (l.length : Int) = 0 := by omega
    have hl3 : ¬ l.length = 0 := by omega
    have hsm : (l.length : Int) * 2 ≤ 1099511627776 := by omega
    have hl2 : (l.length : Int) ≤ 9223372036854775807 := by omega
    have hrep : (List.replicate l.length [Value.int .u8 0]).flatten = zl .u8 l.length := by simp [zl]
    have hrep2 : (List.replicate l.length (Value.int .u8 0)) = zl .u8 l.length := rfl
    have hf0 := cellsOf_new h (zl .u8 l.length) (.exT 5) 1
    have hz := zl_len .u8 l.length
    have hul := ubs_len l
    have hfs : afirst (h.push (.cells (zl .u8 l.length) (.exT 5) 1)) 1 l.length (.string (bs l)) = some (ubs l) := by
      simp only [afirst, bs_data, List.take_of_length_le (Nat.le_refl _)]
      rfl
    have hput : aput (zl .u8 l.length) 0 (ubs l) = ubs l := by
      unfold aput
      rw [List.take_zero, Nat.zero_add, hul, List.drop_of_length_le (by rw [hz]; exact Nat.le_refl _)]
      simp
    have hf2 := cellsOf_new h (ubs l) (.exT 5) 1
    have hi0 : aidx (.int .i64 0) l.length = some 0 := aidx_of (i := 0) hlp
    have hcut := acut_full hul
    simp only [c155, s_seq, s_ops]
    simp [bs_size, h0, hl1, hl3, hsm, hrep, hrep2, alen, hfs, hf0, hz, hul, hput, set_push, hi0, hl2, hlp, hf2, hcut, abytes_ubs, bs_mk, bs_lit]
    exact ⟨Nat.le_succ _, fun y ob e => by
      have := (hcl y ob e).1
      rw [kill_m, if_neg (by omega), push_m, if_neg (by omega)]; exact e⟩
theorem synErr_ok (f l : List UInt8) (hl : l.length ≤ 1000000) (h : Heap) : ACalls Tryz.prog 121 [.string (bs f), .string (bs l)] h fun v h' => h.Ext h' := by
  refine acalls_of mix Tryz.func121 k121 n121 (by simp) fun hcl hb => ?_
  have hg := ge.errS
  simp [c121, hg, apart]
  refine (clone_ok l hl h).mono ?_
  rintro _ h9 ⟨rfl, e⟩
  rw [e]; clear e h9
  simp [hg, apart, afill, mcells]
  exact (Heap.Ext.refl h).push hcl _
theorem rngErr_ok (f l : List UInt8) (hl : l.length ≤ 1000000) (h : Heap) : ACalls Tryz.prog 122 [.string (bs f), .string (bs l)] h fun v h' => h.Ext h' := by
  refine acalls_of mix Tryz.func122 k122 n122 (by simp) fun hcl hb => ?_
  have hg := ge.errR
  simp [c122, hg, apart]
  refine (clone_ok l hl h).mono ?_
  rintro _ h9 ⟨rfl, e⟩
  rw [e]; clear e h9
  simp [hg, apart, afill, mcells]
  exact (Heap.Ext.refl h).push hcl _
abbrev ET : Nat := 174
abbrev NT : Nat := 177
theorem toErr_ok (f l : List UInt8) (k : Int) (hk : k = 1 ∨ k = 2) (hl : l.length ≤ 1000000) (h : Heap) :
    ACalls Tryz.prog 88 [.string (bs f), .string (bs l), .int .i64 0, .int .i64 0, .iface ET (.int .i64 k)] h fun v h' => v = .iface NT unk ∧ h' = h := by
  have key : ACalls Tryz.prog 88 [.string (bs f), .string (bs l), .int .i64 0, .int .i64 0, .iface ET (.int .i64 k)] h fun v h' => (∃ u, v = .iface NT u) ∧ h.Ext h' := by
    refine acalls_of mix Tryz.func88 k88 n88 (by simp) fun hcl hb => ?_
    rcases hk with rfl | rfl
    · simp [c88]
      refine (rngErr_ok f l hl h).mono ?_
      intro v h9 e
      simp
      exact e
    · simp [c88]
      refine (synErr_ok f l hl h).mono ?_
      intro v h9 e
      simp
      exact e
  refine ACalls.same (.iface .any) (calls_weak key ?_)
  rintro v h' ⟨⟨u, rfl⟩, e⟩
  exact ⟨.iface NT unk, fun μ x r => by cases r with | iface r => exact .iface .any, rfl, e⟩

def c167 : AC := .seq (.ops [⟨some 2,none,.mv (.const (.int .u8 0))⟩]) (.seq (.ops [⟨some 3,none,.mv (.tmp 0)⟩,⟨some 4,none,.bin .or (.tmp 3) (.const (.int .u8 32))⟩,⟨some 2,none,.mv (.tmp 4)⟩]) .ret)
theorem k167 : compF Tryz.prog Tryz.f167 = some (c167, [2]) := by kernel_rfl
theorem n167 : Tryz.f167.ntmps = 5 := by kernel_rfl
def c154_3 : AC := .seq (.ops [⟨some 102,none,.bin .lss (.tmp 101) (.tmp 100)⟩]) (.seq (.cond (.tmp 102) .skip (.exit 3)) (.seq (.block 4 (.seq (.ops [⟨some 103,none,.iAddrS 1 (.tmp 99) (.tmp 101)⟩,⟨some 104,none,.load none (.tmp 103)⟩,⟨some 15,none,.mv (.tmp 104)⟩]) (.seq (.ops [⟨some 16,none,.mv (.const (.int .u8 0))⟩]) (.seq (.block 5 (.seq (.ops [⟨some 107,none,.mv (.tmp 15)⟩,⟨some 108,none,.bin .eql (.tmp 107) (.const (.int .u8 95))⟩,⟨some 109,none,.mv (.tmp 108)⟩,⟨some 110,some (109,true),.mv (.tmp 8)⟩,⟨some 111,none,.pick (.tmp 109) (.tmp 110) (.const (.bool false))⟩,⟨some 106,none,.mv (.tmp 111)⟩]) (.cond (.tmp 106) (.seq (.ops [⟨some 12,none,.mv (.const (.bool true))⟩]) (.exit 4)) (.seq (.ops [⟨some 113,none,.mv (.tmp 15)⟩,⟨some 114,none,.bin .leq (.const (.int .u8 48)) (.tmp 113)⟩,⟨some 115,none,.mv (.tmp 114)⟩,⟨some 116,some (115,true),.mv (.tmp 15)⟩,⟨some 117,some (115,true),.bin .leq (.tmp 116) (.const (.int .u8 57))⟩,⟨some 118,none,.pick (.tmp 115) (.tmp 117) (.const (.bool false))⟩,⟨some 112,none,.mv (.tmp 118)⟩]) (.cond (.tmp 112) (.ops [⟨some 119,none,.mv (.tmp 15)⟩,⟨some 120,none,.bin .sub (.tmp 119) (.const (.int .u8 48))⟩,⟨some 16,none,.mv (.tmp 120)⟩]) (.seq (.ops [⟨some 122,none,.mv (.tmp 15)⟩,⟨some 123,none,.call 167 [.tmp 122]⟩,⟨some 124,none,.bin .leq (.const (.int .u8 97)) (.tmp 123)⟩,⟨some 125,none,.mv (.tmp 124)⟩,⟨some 126,some (125,true),.mv (.tmp 15)⟩,⟨some 127,some (125,true),.call 167 [.tmp 126]⟩,⟨some 128,some (125,true),.bin .leq (.tmp 127) (.const (.int .u8 122))⟩,⟨some 129,none,.pick (.tmp 125) (.tmp 128) (.const (.bool false))⟩,⟨some 121,none,.mv (.tmp 129)⟩]) (.cond (.tmp 121) (.ops [⟨some 130,none,.mv (.tmp 15)⟩,⟨some 131,none,.call 167 [.tmp 130]⟩,⟨some 132,none,.bin .sub (.tmp 131) (.const (.int .u8 97))⟩,⟨some 133,none,.bin .add (.tmp 132) (.const (.int .u8 10))⟩,⟨some 16,none,.mv (.tmp 133)⟩]) (.seq (.ops [⟨some 105,none,.mkI 174 (.const (.int .i64 2))⟩,⟨some 6,none,.mv (.const (.int .u64 0))⟩,⟨some 7,none,.mv (.tmp 105)⟩]) .ret)))))))) (.seq (.seq (.ops [⟨some 134,none,.mv (.tmp 16)⟩,⟨some 135,none,.mv (.tmp 1)⟩,⟨some 136,none,.toInt .u8 (.tmp 135)⟩,⟨some 137,none,.bin .geq (.tmp 134) (.tmp 136)⟩]) (.cond (.tmp 137) (.seq (.ops [⟨some 138,none,.mkI 174 (.const (.int .i64 2))⟩,⟨some 6,none,.mv (.const (.int .u64 0))⟩,⟨some 7,none,.mv (.tmp 138)⟩]) .ret) .skip)) (.seq (.seq (.ops [⟨some 139,none,.mv (.tmp 13)⟩,⟨some 140,none,.mv (.tmp 10)⟩,⟨some 141,none,.bin .geq (.tmp 139) (.tmp 140)⟩]) (.cond (.tmp 141) (.seq (.ops [⟨some 142,none,.mv (.tmp 11)⟩,⟨some 143,none,.mkI 174 (.const (.int .i64 1))⟩,⟨some 6,none,.mv (.tmp 142)⟩,⟨some 7,none,.mv (.tmp 143)⟩]) .ret) .skip)) (.seq (.ops [⟨some 144,none,.mv (.tmp 13)⟩,⟨some 145,none,.mv (.tmp 1)⟩,⟨some 146,none,.toInt .u64 (.tmp 145)⟩,⟨some 147,none,.bin .mul (.tmp 144) (.tmp 146)⟩,⟨some 13,none,.mv (.tmp 147)⟩]) (.seq (.ops [⟨some 148,none,.mv (.tmp 13)⟩,⟨some 149,none,.mv (.tmp 16)⟩,⟨some 150,none,.toInt .u64 (.tmp 149)⟩,⟨some 151,none,.bin .add (.tmp 148) (.tmp 150)⟩,⟨some 17,none,.mv (.tmp 151)⟩]) (.seq (.seq (.ops [⟨some 152,none,.mv (.tmp 17)⟩,⟨some 153,none,.mv (.tmp 13)⟩,⟨some 154,none,.bin .lss (.tmp 152) (.tmp 153)⟩,⟨some 155,none,.mv (.tmp 154)⟩,⟨some 156,some (155,false),.mv (.tmp 17)⟩,⟨some 157,some (155,false),.mv (.tmp 11)⟩,⟨some 158,some (155,false),.bin .gtr (.tmp 156) (.tmp 157)⟩,⟨some 159,none,.pick (.tmp 155) (.const (.bool true)) (.tmp 158)⟩]) (.cond (.tmp 159) (.seq (.ops [⟨some 160,none,.mv (.tmp 11)⟩,⟨some 161,none,.mkI 174 (.const (.int .i64 1))⟩,⟨some 6,none,.mv (.tmp 160)⟩,⟨some 7,none,.mv (.tmp 161)⟩]) .ret) .skip)) (.ops [⟨some 162,none,.mv (.tmp 17)⟩,⟨some 13,none,.mv (.tmp 162)⟩])))))))))) (.ops [⟨some 163,none,.bin .add (.tmp 101) (.const (.int .i64 1))⟩,⟨some 101,none,.mv (.tmp 163)⟩])))
def c154 : AC := .seq (.ops [⟨some 6,none,.mv (.const (.int .u64 0))⟩,⟨some 7,none,.mv (.const .nilIface)⟩]) (.seq (.seq (.ops [⟨some 18,none,.mv (.tmp 0)⟩,⟨some 19,none,.bin .eql (.tmp 18) (.const (.string ⟨⟨[]⟩⟩))⟩]) (.cond (.tmp 19) (.seq (.ops [⟨some 20,none,.mkI 174 (.const (.int .i64 2))⟩,⟨some 6,none,.mv (.const (.int .u64 0))⟩,⟨some 7,none,.mv (.tmp 20)⟩]) .ret) .skip)) (.seq (.ops [⟨some 21,none,.mv (.tmp 1)⟩,⟨some 22,none,.bin .eql (.tmp 21) (.const (.int .i64 0))⟩,⟨some 8,none,.mv (.tmp 22)⟩]) (.seq (.ops [⟨some 23,none,.mv (.tmp 0)⟩,⟨some 9,none,.mv (.tmp 23)⟩]) (.seq (.block 0 (.seq (.ops [⟨some 26,none,.mv (.tmp 1)⟩,⟨some 27,none,.bin .leq (.const (.int .i64 2)) (.tmp 26)⟩,⟨some 28,none,.mv (.tmp 27)⟩,⟨some 29,some (28,true),.mv (.tmp 1)⟩,⟨some 30,some (28,true),.bin .leq (.tmp 29) (.const (.int .i64 36))⟩,⟨some 31,none,.pick (.tmp 28) (.tmp 30) (.const (.bool false))⟩,⟨some 25,none,.mv (.tmp 31)⟩]) (.cond (.tmp 25) .skip (.seq (.ops [⟨some 33,none,.mv (.tmp 1)⟩,⟨some 34,none,.bin .eql (.tmp 33) (.const (.int .i64 0))⟩,⟨some 32,none,.mv (.tmp 34)⟩]) (.cond (.tmp 32) (.seq (.ops [⟨some 1,none,.mv (.const (.int .i64 10))⟩]) (.seq (.ops [⟨some 35,none,.mv (.tmp 0)⟩,⟨some 36,none,.iStr (.tmp 35) (.const (.int .i64 0))⟩,⟨some 37,none,.bin .eql (.tmp 36) (.const (.int .u8 48))⟩]) (.cond (.tmp 37) (.block 1 (.seq (.ops [⟨some 41,none,.mv (.tmp 0)⟩,⟨some 42,none,.lenS true (.tmp 41)⟩,⟨some 43,none,.bin .geq (.tmp 42) (.const (.int .i64 3))⟩,⟨some 44,none,.mv (.tmp 43)⟩,⟨some 45,some (44,true),.mv (.tmp 0)⟩,⟨some 46,some (44,true),.iStr (.tmp 45) (.const (.int .i64 1))⟩,⟨some 47,some (44,true),.call 167 [.tmp 46]⟩,⟨some 48,some (44,true),.bin .eql (.tmp 47) (.const (.int .u8 98))⟩,⟨some 49,none,.pick (.tmp 44) (.tmp 48) (.const (.bool false))⟩,⟨some 40,none,.mv (.tmp 49)⟩]) (.cond (.tmp 40) (.seq (.ops [⟨some 1,none,.mv (.const (.int .i64 2))⟩]) (.ops [⟨some 50,none,.mv (.tmp 0)⟩,⟨some 51,none,.slS (.tmp 50) (some (.const (.int .i64 2))) none⟩,⟨some 0,none,.mv (.tmp 51)⟩])) (.seq (.ops [⟨some 53,none,.mv (.tmp 0)⟩,⟨some 54,none,.lenS true (.tmp 53)⟩,⟨some 55,none,.bin .geq (.tmp 54) (.const (.int .i64 3))⟩,⟨some 56,none,.mv (.tmp 55)⟩,⟨some 57,some (56,true),.mv (.tmp 0)⟩,⟨some 58,some (56,true),.iStr (.tmp 57) (.const (.int .i64 1))⟩,⟨some 59,some (56,true),.call 167 [.tmp 58]⟩,⟨some 60,some (56,true),.bin .eql (.tmp 59) (.const (.int .u8 111))⟩,⟨some 61,none,.pick (.tmp 56) (.tmp 60) (.const (.bool false))⟩,⟨some 52,none,.mv (.tmp 61)⟩]) (.cond (.tmp 52) (.seq (.ops [⟨some 1,none,.mv (.const (.int .i64 8))⟩]) (.ops [⟨some 62,none,.mv (.tmp 0)⟩,⟨some 63,none,.slS (.tmp 62) (some (.const (.int .i64 2))) none⟩,⟨some 0,none,.mv (.tmp 63)⟩])) (.seq (.ops [⟨some 65,none,.mv (.tmp 0)⟩,⟨some 66,none,.lenS true (.tmp 65)⟩,⟨some 67,none,.bin .geq (.tmp 66) (.const (.int .i64 3))⟩,⟨some 68,none,.mv (.tmp 67)⟩,⟨some 69,some (68,true),.mv (.tmp 0)⟩,⟨some 70,some (68,true),.iStr (.tmp 69) (.const (.int .i64 1))⟩,⟨some 71,some (68,true),.call 167 [.tmp 70]⟩,⟨some 72,some (68,true),.bin .eql (.tmp 71) (.const (.int .u8 120))⟩,⟨some 73,none,.pick (.tmp 68) (.tmp 72) (.const (.bool false))⟩,⟨some 64,none,.mv (.tmp 73)⟩]) (.cond (.tmp 64) (.seq (.ops [⟨some 1,none,.mv (.const (.int .i64 16))⟩]) (.ops [⟨some 74,none,.mv (.tmp 0)⟩,⟨some 75,none,.slS (.tmp 74) (some (.const (.int .i64 2))) none⟩,⟨some 0,none,.mv (.tmp 75)⟩])) (.seq (.ops [⟨some 1,none,.mv (.const (.int .i64 8))⟩]) (.ops [⟨some 38,none,.mv (.tmp 0)⟩,⟨some 39,none,.slS (.tmp 38) (some (.const (.int .i64 1))) none⟩,⟨some 0,none,.mv (.tmp 39)⟩]))))))))) .skip))) (.seq (.ops [⟨some 24,none,.mkI 174 (.const (.int .i64 3))⟩,⟨some 6,none,.mv (.const (.int .u64 0))⟩,⟨some 7,none,.mv (.tmp 24)⟩]) .ret)))))) (.seq (.seq (.ops [⟨some 76,none,.mv (.tmp 2)⟩,⟨some 77,none,.bin .eql (.tmp 76) (.const (.int .i64 0))⟩]) (.cond (.tmp 77) (.ops [⟨some 2,none,.mv (.const (.int .i64 64))⟩]) (.seq (.ops [⟨some 78,none,.mv (.tmp 2)⟩,⟨some 79,none,.bin .lss (.tmp 78) (.const (.int .i64 0))⟩,⟨some 80,none,.mv (.tmp 79)⟩,⟨some 81,some (80,false),.mv (.tmp 2)⟩,⟨some 82,some (80,false),.bin .gtr (.tmp 81) (.const (.int .i64 64))⟩,⟨some 83,none,.pick (.tmp 80) (.const (.bool true)) (.tmp 82)⟩]) (.cond (.tmp 83) (.seq (.ops [⟨some 84,none,.mkI 174 (.const (.int .i64 4))⟩,⟨some 6,none,.mv (.const (.int .u64 0))⟩,⟨some 7,none,.mv (.tmp 84)⟩]) .ret) .skip)))) (.seq (.ops [⟨some 10,none,.mv (.const (.int .u64 0))⟩]) (.seq (.seq (.ops [⟨some 85,none,.mv (.tmp 1)⟩]) (.block 2 (.seq (.ops [⟨some 91,none,.bin .eql (.tmp 85) (.const (.int .i64 10))⟩,⟨some 90,none,.mv (.tmp 91)⟩]) (.cond (.tmp 90) (.ops [⟨some 10,none,.mv (.const (.int .u64 1844674407370955162))⟩]) (.seq (.ops [⟨some 93,none,.bin .eql (.tmp 85) (.const (.int .i64 16))⟩,⟨some 92,none,.mv (.tmp 93)⟩]) (.cond (.tmp 92) (.ops [⟨some 10,none,.mv (.const (.int .u64 1152921504606846976))⟩]) (.ops [⟨some 86,none,.mv (.tmp 1)⟩,⟨some 87,none,.toInt .u64 (.tmp 86)⟩,⟨some 88,none,.bin .quo (.const (.int .u64 18446744073709551615)) (.tmp 87)⟩,⟨some 89,none,.bin .add (.tmp 88) (.const (.int .u64 1))⟩,⟨some 10,none,.mv (.tmp 89)⟩]))))))) (.seq (.ops [⟨some 94,none,.mv (.tmp 2)⟩,⟨some 95,none,.toInt .u64 (.tmp 94)⟩,⟨some 96,none,.bin .shl (.const (.int .u64 1)) (.tmp 95)⟩,⟨some 97,none,.bin .sub (.tmp 96) (.const (.int .u64 1))⟩,⟨some 11,none,.mv (.tmp 97)⟩]) (.seq (.ops [⟨some 12,none,.mv (.const (.bool false))⟩]) (.seq (.ops [⟨some 13,none,.mv (.const (.int .u64 0))⟩]) (.seq (.seq (.ops [⟨some 98,none,.mv (.tmp 0)⟩,⟨some 99,none,.toBytes 5 (.tmp 98)⟩,⟨some 100,none,.lenS false (.tmp 99)⟩,⟨some 101,none,.mv (.const (.int .i64 0))⟩]) (.block 3 (.loop c154_3))) (.seq (.seq (.ops [⟨some 164,none,.mv (.tmp 12)⟩,⟨some 165,none,.mv (.tmp 164)⟩,⟨some 166,some (165,true),.mv (.tmp 9)⟩,⟨some 167,some (165,true),.call 168 [.tmp 166]⟩,⟨some 168,some (165,true),.un .not (.tmp 167)⟩,⟨some 169,none,.pick (.tmp 165) (.tmp 168) (.const (.bool false))⟩]) (.cond (.tmp 169) (.seq (.ops [⟨some 170,none,.mkI 174 (.const (.int .i64 2))⟩,⟨some 6,none,.mv (.const (.int .u64 0))⟩,⟨some 7,none,.mv (.tmp 170)⟩]) .ret) .skip)) (.seq (.ops [⟨some 171,none,.mv (.tmp 13)⟩,⟨some 6,none,.mv (.tmp 171)⟩,⟨some 7,none,.mv (.const .nilIface)⟩]) .ret)))))))))))))
theorem k154 : compF Tryz.prog Tryz.f154 = some (c154, [6, 7]) := by kernel_rfl
theorem n154 : Tryz.f154.ntmps = 172 := by kernel_rfl
def c120 : AC := .seq (.ops [⟨some 6,none,.mv (.const (.int .i64 0))⟩,⟨some 7,none,.mv (.const .nilIface)⟩]) (.seq (.seq (.ops [⟨some 12,none,.mv (.tmp 0)⟩,⟨some 13,none,.bin .eql (.tmp 12) (.const (.string ⟨⟨[]⟩⟩))⟩]) (.cond (.tmp 13) (.seq (.ops [⟨some 14,none,.mkI 174 (.const (.int .i64 2))⟩,⟨some 6,none,.mv (.const (.int .i64 0))⟩,⟨some 7,none,.mv (.tmp 14)⟩]) .ret) .skip)) (.seq (.ops [⟨some 8,none,.mv (.const (.bool false))⟩]) (.seq (.seq (.ops [⟨some 15,none,.mv (.tmp 0)⟩,⟨some 16,none,.iStr (.tmp 15) (.const (.int .i64 0))⟩]) (.block 0 (.seq (.ops [⟨some 18,none,.bin .eql (.tmp 16) (.const (.int .u8 43))⟩,⟨some 17,none,.mv (.tmp 18)⟩]) (.cond (.tmp 17) (.ops [⟨some 19,none,.mv (.tmp 0)⟩,⟨some 20,none,.slS (.tmp 19) (some (.const (.int .i64 1))) none⟩,⟨some 0,none,.mv (.tmp 20)⟩]) (.seq (.ops [⟨some 22,none,.bin .eql (.tmp 16) (.const (.int .u8 45))⟩,⟨some 21,none,.mv (.tmp 22)⟩]) (.cond (.tmp 21) (.seq (.ops [⟨some 23,none,.mv (.tmp 0)⟩,⟨some 24,none,.slS (.tmp 23) (some (.const (.int .i64 1))) none⟩,⟨some 0,none,.mv (.tmp 24)⟩]) (.ops [⟨some 8,none,.mv (.const (.bool true))⟩])) .skip)))))) (.seq (.ops [⟨some 9,none,.mv (.const (.int .u64 0))⟩]) (.seq (.ops [⟨some 26,none,.mv (.tmp 0)⟩,⟨some 27,none,.mv (.tmp 1)⟩,⟨some 28,none,.mv (.tmp 2)⟩,⟨some 29,none,.call 154 [.tmp 26,.tmp 27,.tmp 28]⟩,⟨some 25,none,.mv (.tmp 29)⟩,⟨some 30,none,.extr (.tmp 25) 0⟩,⟨some 31,none,.extr (.tmp 25) 1⟩,⟨some 9,none,.mv (.tmp 30)⟩,⟨some 7,none,.mv (.tmp 31)⟩]) (.seq (.seq (.ops [⟨some 32,none,.mv (.tmp 7)⟩,⟨some 33,none,.eqv true .ifc (.tmp 32) (.const .nilIface)⟩,⟨some 34,none,.mv (.tmp 33)⟩,⟨some 35,some (34,true),.mv (.tmp 7)⟩,⟨some 36,some (34,true),.mkI 174 (.const (.int .i64 1))⟩,⟨some 37,some (34,true),.eqi true [2,3,5,6,12,21,39,110,112,162,174,214,243,244,246,247] (.tmp 35) (.tmp 36)⟩,⟨some 38,none,.pick (.tmp 34) (.tmp 37) (.const (.bool false))⟩]) (.cond (.tmp 38) (.seq (.ops [⟨some 39,none,.mv (.tmp 7)⟩,⟨some 6,none,.mv (.const (.int .i64 0))⟩,⟨some 7,none,.mv (.tmp 39)⟩]) .ret) .skip)) (.seq (.seq (.ops [⟨some 40,none,.mv (.tmp 2)⟩,⟨some 41,none,.bin .eql (.tmp 40) (.const (.int .i64 0))⟩]) (.cond (.tmp 41) (.ops [⟨some 2,none,.mv (.const (.int .i64 64))⟩]) .skip)) (.seq (.ops [⟨some 42,none,.mv (.tmp 2)⟩,⟨some 43,none,.bin .sub (.tmp 42) (.const (.int .i64 1))⟩,⟨some 44,none,.toInt .u64 (.tmp 43)⟩,⟨some 45,none,.bin .shl (.const (.int .u64 1)) (.tmp 44)⟩,⟨some 10,none,.mv (.tmp 45)⟩]) (.seq (.seq (.ops [⟨some 46,none,.mv (.tmp 8)⟩,⟨some 47,none,.un .not (.tmp 46)⟩,⟨some 48,none,.mv (.tmp 47)⟩,⟨some 49,some (48,true),.mv (.tmp 9)⟩,⟨some 50,some (48,true),.mv (.tmp 10)⟩,⟨some 51,some (48,true),.bin .geq (.tmp 49) (.tmp 50)⟩,⟨some 52,none,.pick (.tmp 48) (.tmp 51) (.const (.bool false))⟩]) (.cond (.tmp 52) (.seq (.ops [⟨some 53,none,.mv (.tmp 10)⟩,⟨some 54,none,.bin .sub (.tmp 53) (.const (.int .u64 1))⟩,⟨some 55,none,.toInt .i64 (.tmp 54)⟩,⟨some 56,none,.mkI 174 (.const (.int .i64 1))⟩,⟨some 6,none,.mv (.tmp 55)⟩,⟨some 7,none,.mv (.tmp 56)⟩]) .ret) .skip)) (.seq (.seq (.ops [⟨some 57,none,.mv (.tmp 8)⟩,⟨some 58,none,.mv (.tmp 57)⟩,⟨some 59,some (58,true),.mv (.tmp 9)⟩,⟨some 60,some (58,true),.mv (.tmp 10)⟩,⟨some 61,some (58,true),.bin .gtr (.tmp 59) (.tmp 60)⟩,⟨some 62,none,.pick (.tmp 58) (.tmp 61) (.const (.bool false))⟩]) (.cond (.tmp 62) (.seq (.ops [⟨some 63,none,.mv (.tmp 10)⟩,⟨some 64,none,.toInt .i64 (.tmp 63)⟩,⟨some 65,none,.un .neg (.tmp 64)⟩,⟨some 66,none,.mkI 174 (.const (.int .i64 1))⟩,⟨some 6,none,.mv (.tmp 65)⟩,⟨some 7,none,.mv (.tmp 66)⟩]) .ret) .skip)) (.seq (.ops [⟨some 67,none,.mv (.tmp 9)⟩,⟨some 68,none,.toInt .i64 (.tmp 67)⟩,⟨some 11,none,.mv (.tmp 68)⟩]) (.seq (.seq (.ops [⟨some 69,none,.mv (.tmp 8)⟩]) (.cond (.tmp 69) (.ops [⟨some 70,none,.mv (.tmp 11)⟩,⟨some 71,none,.un .neg (.tmp 70)⟩,⟨some 11,none,.mv (.tmp 71)⟩]) .skip)) (.seq (.ops [⟨some 72,none,.mv (.tmp 11)⟩,⟨some 6,none,.mv (.tmp 72)⟩,⟨some 7,none,.mv (.const .nilIface)⟩]) .ret)))))))))))))
theorem k120 : compF Tryz.prog Tryz.f120 = some (c120, [6, 7]) := by kernel_rfl
theorem n120 : Tryz.f120.ntmps = 73 := by kernel_rfl
def PU (k : IntKind) (v : Value) : Prop := ∃ x e, v = .tuple #[.int k x, e] ∧ (e = .nilIface ∨ ∃ q : Int, e = .iface ET (.int .i64 q) ∧ (q = 1 ∨ q = 2)) ∧ (k = .i64 → IntKind.i64.wrap x = x)
theorem ww (n : Int) : IntKind.i64.wrap (IntKind.i64.wrap n) = IntKind.i64.wrap n := by
  refine IntWalk.i64_in _ ?_
  unfold IntKind.wrap
  simp [IntKind.bits, IntKind.signed]
  omega
theorem PU.err {k : IntKind} (x : Int) (q : Int) (hq : q = 1 ∨ q = 2) (hx : k = .i64 → IntKind.i64.wrap x = x := by intro e; cases e) : PU k (.tuple #[.int k x, .iface ET (.int .i64 q)]) := ⟨x, _, rfl, .inr ⟨q, rfl, hq⟩, hx⟩
theorem PU.nil {k : IntKind} (x : Int) (hx : k = .i64 → IntKind.i64.wrap x = x := by intro e; cases e) : PU k (.tuple #[.int k x, .nilIface]) := ⟨x, _, rfl, .inl rfl, hx⟩
theorem vb_tup2 {n : Nat} {a b : Value} (ha : VBelow n a) (hb : VBelow n b) : VBelow n (.tuple #[a, b]) := vb_tuple2 ha hb
theorem PU.below {k : IntKind} {v : Value} (n : Nat) (h : PU k v) : VBelow n v := by
  obtain ⟨x, e, rfl, rfl | ⟨q, rfl, _⟩⟩ := h
  · exact vb_tup2 .int .nilIface
  · exact vb_tup2 .int (.iface .int)
theorem lower_ok (c : Int) (h : Heap) : ACalls Tryz.prog 167 [.int .u8 c] h fun v h' => v = .int .u8 (abits .or .u8 c 32) ∧ h' = h := by
  refine acalls_of mix Tryz.func167 k167 n167 (by simp) fun hcl hb => ?_
  simp [c167]
structure US where
  i : Nat
  n : Int
set_option maxHeartbeats 2000000 in
theorem puint_ok (l : List UInt8) (hl : l.length ≤ 1000000) (h : Heap) : ACalls Tryz.prog 154 [.string (bs l), .int .i64 10, .int .i64 0] h fun v h' => PU .u64 v ∧ h' = h := by
  refine ACalls.same' (R := PU .u64) (fun v hv => hv.below _) (acalls_of mix Tryz.func154 k154 n154 (by simp) fun hcl hb => ?_)
  by_cases h0 : l = []
  · subst h0
    simp [c154, bs_lit]
    exact ⟨PU.err _ _ (.inr rfl), Heap.Ext.refl h⟩
  · have hne : ¬ bs l = bs [] := fun q => h0 (bs_inj.1 q)
    have hsz : (bs l).size ≤ 1099511627776 := by rw [bs_size]; omega
    have hm64 : min 64 IntKind.u64.bits = 64 := rfl
    have hw64 : IntKind.u64.wrap (64 : Int) = 64 := rfl
    have hsl : IntKind.u64.wrap (1 * 2 ^ 64) = 0 := by decide
    have hsl' : IntKind.u64.wrap (18446744073709551616 : Int) = 0 := by decide
    have hmx : IntKind.u64.wrap ((0 : Int) - 1) = 18446744073709551615 := by decide
    have hmx' : IntKind.u64.wrap (-1 : Int) = 18446744073709551615 := by decide
    have hb1 : ((bs l).data.toList.map fun b => Value.int .u8 (b.toNat : Int)) = ubs l := by rw [bs_data]; rfl
    have hb2 : (List.map (fun b => Value.int .u8 (b.toNat : Int)) (bs l).data.toList) = ubs l := hb1
    simp only [c154, s_seq, s_ops]
    simp [bs_lit, hne, hsz, hm64, hw64, hsl, hsl', hmx, hmx']
    rw [hb2]
    have hc1 : (h.push (.cells (ubs l) (.loose 5) 1)).Closed := closed_push hcl ubs_bel
    have hf1 := cellsOf_new h (ubs l) (.loose 5) 1
    have e1 := (Heap.Ext.refl h).push hcl (.cells (ubs l) (.loose 5) 1)
    refine awp_loop_of (α := US) (fun z => z.i ≤ l.length)
      (fun z => [(1, .int .i64 10), (10, .int .u64 1844674407370955162), (11, .int .u64 18446744073709551615), (8, .bool false), (12, .bool false), (13, .int .u64 z.n), (99, .slice (some ⟨h.n, 0, none⟩) l.length l.length), (100, .int .i64 l.length), (101, .int .i64 z.i)])
      (fun _ => h.push (.cells (ubs l) (.loose 5) 1)) (fun z => l.length - z.i) ⟨0, 0⟩ (Nat.zero_le _) ⟨Nat.le_succ _, Nat.le_refl _, fun _ _ e => e, hc1⟩
      (by simp [bs_size]; repeat' (first | exact .int | exact .bool | exact .string | exact vb_slice (Nat.lt_succ_self _) | rfl | apply And.intro)) ?_
    rintro ⟨i, n⟩ hi
    dsimp only at hi ⊢
    by_cases hil : i < l.length
    · have hil' : (i : Int) < l.length := by omega
      have hg := ubs_get hil
      have hltu : i < (ubs l).length := by rw [ubs_len]; exact hil
      have hg' : (ubs l)[i] = .int .u8 (l[i].toNat : Int) := by rw [List.getElem?_eq_getElem hltu] at hg; exact Option.some.inj hg
      have hcb := l[i].toNat_lt
      have w4 : IntKind.i64.wrap ((i : Int) + 1) = ((i + 1 : Nat) : Int) := w1 i (by omega)
      generalize l[i].toNat = c at *
      have hw10 : IntKind.u8.wrap (10 : Int) = 10 := rfl
      have hw10' : IntKind.u64.wrap (10 : Int) = 10 := rfl
      by_cases hd : 48 ≤ c ∧ c ≤ 57
      · have d1 : (48 : Int) ≤ (c : Int) := by omega
        have d2 : (c : Int) ≤ 57 := by omega
        have d3 : ¬ (c : Int) = 95 := by omega
        have d3' : ¬ c = 95 := by omega
        have d4 : IntKind.u8.wrap ((c : Int) - 48) = ((c - 48 : Nat) : Int) := by unfold IntKind.wrap; simp [IntKind.bits, IntKind.signed]; omega
        have d5 : ¬ (10 : Int) ≤ ((c - 48 : Nat) : Int) := by omega
        have d6 : IntKind.u64.wrap ((c - 48 : Nat) : Int) = ((c - 48 : Nat) : Int) := u64w _ (by omega)
        by_cases q3 : (1844674407370955162 : Int) ≤ n
        · simp [c154_3, hil', aidx_of hil, hf1, apart, hltu, hg', d1, d2, d3, d3', d4, d5, d6, hw10, hw10', q3]
          exact ⟨PU.err _ _ (.inl rfl), e1⟩
        · obtain ⟨n2, hn2⟩ : ∃ n2, IntKind.u64.wrap (n * 10) = n2 := ⟨_, rfl⟩
          obtain ⟨n3, hn3⟩ : ∃ n3, IntKind.u64.wrap (n2 + ((c - 48 : Nat) : Int)) = n3 := ⟨_, rfl⟩
          by_cases q4 : n3 < n2
          · simp [c154_3, hil', aidx_of hil, hf1, apart, hltu, hg', d1, d2, d3, d3', d4, d5, d6, hw10, hw10', q3, hn2, hn3, q4]
            exact ⟨PU.err _ _ (.inl rfl), e1⟩
          · by_cases q5 : (18446744073709551615 : Int) < n3
            · simp [c154_3, hil', aidx_of hil, hf1, apart, hltu, hg', d1, d2, d3, d3', d4, d5, d6, hw10, hw10', q3, hn2, hn3, q4, q5]
              exact ⟨PU.err _ _ (.inl rfl), e1⟩
            · simp [c154_3, hil', aidx_of hil, hf1, apart, hltu, hg', d1, d2, d3, d3', d4, d5, d6, hw10, hw10', q3, hn2, hn3, q4, q5, w4, -Int.natCast_add]
              exact ⟨⟨i + 1, n3⟩, by show l.length - (i + 1) < l.length - i; omega, by show i + 1 ≤ l.length; omega, ⟨Nat.le_succ _, Nat.le_refl _, fun _ _ e => e, hc1⟩, by repeat' (first | exact .int | exact .bool | exact .string | exact vb_slice (Nat.lt_succ_self _) | rfl | apply And.intro)⟩
      · obtain ⟨lo, hlo⟩ : ∃ lo, abits .or .u8 (c : Int) 32 = lo := ⟨_, rfl⟩
        by_cases k1 : 48 ≤ c
        · have d1 : (48 : Int) ≤ (c : Int) := by omega
          have d2 : ¬ (c : Int) ≤ 57 := by omega
          by_cases k2 : c = 95
          · have d3 : ((c : Int) = 95) = True := eq_true (by omega)
            have d4 : (c = 95) = True := eq_true k2
            simp [c154_3, hil', aidx_of hil, hf1, apart, hltu, hg', hw10, hw10', d1, d2, d3, d4]
            refine (lower_ok c _).mono ?_
            rintro _ h9 ⟨rfl, e⟩
            rw [e]; clear e h9
            by_cases p1 : (97 : Int) ≤ lo
            · simp [hlo, p1]
              refine (lower_ok c _).mono ?_
              rintro _ h9 ⟨rfl, e⟩
              rw [e]; clear e h9
              by_cases p2 : lo ≤ 122
              · have p3 : IntKind.u8.wrap (lo - 97) = lo - 97 := by unfold IntKind.wrap; simp [IntKind.bits, IntKind.signed]; omega
                have p4 : IntKind.u8.wrap (lo - 97 + 10) = lo - 97 + 10 := by unfold IntKind.wrap; simp [IntKind.bits, IntKind.signed]; omega
                have p5 : (10 : Int) ≤ lo - 97 + 10 := by omega
                simp [hlo, p2]
                refine (lower_ok c _).mono ?_
                rintro _ h9 ⟨rfl, e⟩
                rw [e]; clear e h9
                simp [hlo, p3, p4, p5, hw10]
                exact ⟨PU.err _ _ (.inr rfl), e1⟩
              · simp [hlo, p2]
                exact ⟨PU.err _ _ (.inr rfl), e1⟩
            · simp [hlo, p1]
              exact ⟨PU.err _ _ (.inr rfl), e1⟩
          · have d3 : ¬ (c : Int) = 95 := by omega
            simp [c154_3, hil', aidx_of hil, hf1, apart, hltu, hg', hw10, hw10', d1, d2, d3, k2]
            refine (lower_ok c _).mono ?_
            rintro _ h9 ⟨rfl, e⟩
            rw [e]; clear e h9
            by_cases p1 : (97 : Int) ≤ lo
            · simp [hlo, p1]
              refine (lower_ok c _).mono ?_
              rintro _ h9 ⟨rfl, e⟩
              rw [e]; clear e h9
              by_cases p2 : lo ≤ 122
              · have p3 : IntKind.u8.wrap (lo - 97) = lo - 97 := by unfold IntKind.wrap; simp [IntKind.bits, IntKind.signed]; omega
                have p4 : IntKind.u8.wrap (lo - 97 + 10) = lo - 97 + 10 := by unfold IntKind.wrap; simp [IntKind.bits, IntKind.signed]; omega
                have p5 : (10 : Int) ≤ lo - 97 + 10 := by omega
                simp [hlo, p2]
                refine (lower_ok c _).mono ?_
                rintro _ h9 ⟨rfl, e⟩
                rw [e]; clear e h9
                simp [hlo, p3, p4, p5, hw10]
                exact ⟨PU.err _ _ (.inr rfl), e1⟩
              · simp [hlo, p2]
                exact ⟨PU.err _ _ (.inr rfl), e1⟩
            · simp [hlo, p1]
              exact ⟨PU.err _ _ (.inr rfl), e1⟩
        · have d1 : ¬ (48 : Int) ≤ (c : Int) := by omega
          have d3 : ¬ (c : Int) = 95 := by omega
          have k2 : ¬ c = 95 := by omega
          simp [c154_3, hil', aidx_of hil, hf1, apart, hltu, hg', hw10, hw10', d1, d3, k2]
          refine (lower_ok c _).mono ?_
          rintro _ h9 ⟨rfl, e⟩
          rw [e]; clear e h9
          by_cases p1 : (97 : Int) ≤ lo
          · simp [hlo, p1]
            refine (lower_ok c _).mono ?_
            rintro _ h9 ⟨rfl, e⟩
            rw [e]; clear e h9
            by_cases p2 : lo ≤ 122
            · have p3 : IntKind.u8.wrap (lo - 97) = lo - 97 := by unfold IntKind.wrap; simp [IntKind.bits, IntKind.signed]; omega
              have p4 : IntKind.u8.wrap (lo - 97 + 10) = lo - 97 + 10 := by unfold IntKind.wrap; simp [IntKind.bits, IntKind.signed]; omega
              have p5 : (10 : Int) ≤ lo - 97 + 10 := by omega
              simp [hlo, p2]
              refine (lower_ok c _).mono ?_
              rintro _ h9 ⟨rfl, e⟩
              rw [e]; clear e h9
              simp [hlo, p3, p4, p5, hw10]
              exact ⟨PU.err _ _ (.inr rfl), e1⟩
            · simp [hlo, p2]
              exact ⟨PU.err _ _ (.inr rfl), e1⟩
          · simp [hlo, p1]
            exact ⟨PU.err _ _ (.inr rfl), e1⟩
    · have hie : i = l.length := by omega
      have hil' : ¬ (i : Int) < l.length := by omega
      simp [c154_3, hil']
      exact ⟨PU.nil _, e1⟩
theorem shl63 : IntKind.u64.wrap (1 * 2 ^ 63) = 9223372036854775808 := by decide
theorem pint_ok (l : List UInt8) (hl : l.length ≤ 1000000) (h : Heap) : ACalls Tryz.prog 120 [.string (bs l), .int .i64 10, .int .i64 0] h fun v h' => PU .i64 v ∧ h' = h := by
  refine acalls_of mix Tryz.func120 k120 n120 (by simp) fun hcl hb => ?_
  cases l with
  | nil =>
    simp [c120, bs_lit]
    exact PU.err _ _ (.inr rfl) (fun _ => rfl)
  | cons c r =>
    have hne : ¬ bs (c :: r) = bs [] := fun q => by have := bs_inj.1 q; cases this
    have hs : (bs (c :: r)).size = r.length + 1 := by rw [bs_size]; rfl
    have hd : (bs (c :: r)).data[0]? = some c := by
      have : (bs (c :: r)).data.toList[0]? = some c := by rw [bs_data]; rfl
      simpa using this
    have hd' : ∀ hh : 0 < (bs (c :: r)).data.size, (bs (c :: r)).data[0]'hh = c := fun hh => by have := hd; rw [Array.getElem?_eq_getElem hh] at this; exact Option.some.inj this
    have hi0 : aidx (.int .i64 0) (r.length + 1) = some 0 := aidx_of (i := 0) (by omega)
    have b1 : abounds (r.length + 1) (r.length + 1) (some (.int .i64 1)) none none = some (1, r.length + 1, r.length + 1) := abounds_lo (l := 1) (by omega) (by omega)
    have hx : (bs (c :: r)).extract 1 (r.length + 1) = bs r := by
      rw [bs_extract]
      simp
    have hrl : r.length ≤ 1000000 := by simp at hl; omega
    have m63 : min 63 IntKind.u64.bits = 63 := rfl
    have w63 : IntKind.u64.wrap (63 : Int) = 63 := rfl
    have w64 : IntKind.i64.wrap ((64 : Int) - 1) = 63 := rfl
    have w64' : IntKind.i64.wrap (63 : Int) = 63 := rfl
    have s63 := shl63
    have s63' : IntKind.u64.wrap (9223372036854775808 : Int) = 9223372036854775808 := by decide
    have tail : ∀ (neg : Bool) (v : Value), PU .u64 v → ∀ f : AF, True := fun _ _ _ _ => trivial
    by_cases c1 : c.toNat = 43
    · have c1' : ((c.toNat : Int) = 43) = True := eq_true (by omega)
      simp [c120, bs_lit, hne, hs, hd, hd', hi0, c1, c1', b1, hx]
      refine (puint_ok r hrl h).mono ?_
      rintro _ h9 ⟨⟨x, e, rfl, he, _⟩, e'⟩
      rw [e']; clear e' h9
      rcases he with rfl | ⟨q, rfl, rfl | rfl⟩
      all_goals by_cases q1 : (9223372036854775808 : Int) ≤ x
      all_goals simp [aeq, aun, m63, w63, w64, w64', s63, s63', q1]
      all_goals first | exact PU.err _ _ (.inl rfl) (fun _ => by first | rfl | decide | exact ww _) | exact PU.err _ _ (.inr rfl) (fun _ => by first | rfl | decide | exact ww _) | exact PU.nil _ (fun _ => by first | rfl | decide | exact ww _)
    · have c1' : ¬ (c.toNat : Int) = 43 := by omega
      by_cases c2 : c.toNat = 45
      · have c2' : ((c.toNat : Int) = 45) = True := eq_true (by omega)
        simp [c120, bs_lit, hne, hs, hd, hd', hi0, c1, c1', c2, c2', b1, hx]
        refine (puint_ok r hrl h).mono ?_
        rintro _ h9 ⟨⟨x, e, rfl, he, _⟩, e'⟩
        rw [e']; clear e' h9
        rcases he with rfl | ⟨q, rfl, rfl | rfl⟩
        all_goals by_cases q1 : (9223372036854775808 : Int) < x
        all_goals simp [aeq, aun, m63, w63, w64, w64', s63, s63', q1]
        all_goals first | exact PU.err _ _ (.inl rfl) (fun _ => by first | rfl | decide | exact ww _) | exact PU.err _ _ (.inr rfl) (fun _ => by first | rfl | decide | exact ww _) | exact PU.nil _ (fun _ => by first | rfl | decide | exact ww _)
      · have c2' : ¬ (c.toNat : Int) = 45 := by omega
        simp [c120, bs_lit, hne, hs, hd, hd', hi0, c1, c1', c2, c2']
        refine (puint_ok (c :: r) hl h).mono ?_
        rintro _ h9 ⟨⟨x, e, rfl, he, _⟩, e'⟩
        rw [e']; clear e' h9
        rcases he with rfl | ⟨q, rfl, rfl | rfl⟩
        all_goals by_cases q1 : (9223372036854775808 : Int) ≤ x
        all_goals simp [aeq, aun, m63, w63, w64, w64', s63, s63', q1]
        all_goals first | exact PU.err _ _ (.inl rfl) (fun _ => by first | rfl | decide | exact ww _) | exact PU.err _ _ (.inr rfl) (fun _ => by first | rfl | decide | exact ww _) | exact PU.nil _ (fun _ => by first | rfl | decide | exact ww _)

def c87_0 : AC := .seq (.ops [⟨some 50,none,.bin .lss (.tmp 49) (.tmp 48)⟩]) (.seq (.cond (.tmp 50) .skip (.exit 0)) (.seq (.block 1 (.seq (.ops [⟨some 51,none,.iAddrS 1 (.tmp 47) (.tmp 49)⟩,⟨some 52,none,.load none (.tmp 51)⟩,⟨some 8,none,.mv (.tmp 52)⟩]) (.seq (.ops [⟨some 53,none,.mv (.tmp 8)⟩,⟨some 54,none,.bin .sub (.tmp 53) (.const (.int .u8 48))⟩,⟨some 8,none,.mv (.tmp 54)⟩]) (.seq (.seq (.ops [⟨some 55,none,.mv (.tmp 8)⟩,⟨some 56,none,.bin .gtr (.tmp 55) (.const (.int .u8 9))⟩]) (.cond (.tmp 56) (.seq (.ops [⟨some 57,none,.mkI 174 (.const (.int .i64 2))⟩,⟨some 2,none,.mv (.const (.int .i64 0))⟩,⟨some 3,none,.mv (.tmp 57)⟩]) .ret) .skip)) (.ops [⟨some 58,none,.mv (.tmp 6)⟩,⟨some 59,none,.bin .mul (.tmp 58) (.const (.int .i64 10))⟩,⟨some 60,none,.mv (.tmp 8)⟩,⟨some 61,none,.toInt .i64 (.tmp 60)⟩,⟨some 62,none,.bin .add (.tmp 59) (.tmp 61)⟩,⟨some 6,none,.mv (.tmp 62)⟩]))))) (.ops [⟨some 63,none,.bin .add (.tmp 49) (.const (.int .i64 1))⟩,⟨some 49,none,.mv (.tmp 63)⟩])))
def c87 : AC := .seq (.ops [⟨some 2,none,.mv (.const (.int .i64 0))⟩,⟨some 3,none,.mv (.const .nilIface)⟩]) (.seq (.ops [⟨some 11,none,.mv (.tmp 0)⟩,⟨some 12,none,.lenS true (.tmp 11)⟩,⟨some 4,none,.mv (.tmp 12)⟩]) (.seq (.seq (.ops [⟨some 13,none,.mv (.const (.bool false))⟩,⟨some 14,some (13,true),.mv (.tmp 4)⟩,⟨some 15,some (13,true),.bin .lss (.const (.int .i64 0)) (.tmp 14)⟩,⟨some 16,some (13,true),.mv (.tmp 15)⟩,⟨some 17,some (16,true),.mv (.tmp 4)⟩,⟨some 18,some (16,true),.bin .lss (.tmp 17) (.const (.int .i64 10))⟩,⟨some 19,some (13,true),.pick (.tmp 16) (.tmp 18) (.const (.bool false))⟩,⟨some 20,none,.pick (.tmp 13) (.tmp 19) (.const (.bool false))⟩,⟨some 21,none,.mv (.tmp 20)⟩,⟨some 22,some (21,false),.mv (.const (.bool true))⟩,⟨some 23,some (22,true),.mv (.tmp 4)⟩,⟨some 24,some (22,true),.bin .lss (.const (.int .i64 0)) (.tmp 23)⟩,⟨some 25,some (22,true),.mv (.tmp 24)⟩,⟨some 26,some (25,true),.mv (.tmp 4)⟩,⟨some 27,some (25,true),.bin .lss (.tmp 26) (.const (.int .i64 19))⟩,⟨some 28,some (22,true),.pick (.tmp 25) (.tmp 27) (.const (.bool false))⟩,⟨some 29,some (21,false),.pick (.tmp 22) (.tmp 28) (.const (.bool false))⟩,⟨some 30,none,.pick (.tmp 21) (.const (.bool true)) (.tmp 29)⟩]) (.cond (.tmp 30) (.seq (.ops [⟨some 31,none,.mv (.tmp 0)⟩,⟨some 5,none,.mv (.tmp 31)⟩]) (.seq (.seq (.ops [⟨some 32,none,.mv (.tmp 0)⟩,⟨some 33,none,.iStr (.tmp 32) (.const (.int .i64 0))⟩,⟨some 34,none,.bin .eql (.tmp 33) (.const (.int .u8 45))⟩,⟨some 35,none,.mv (.tmp 34)⟩,⟨some 36,some (35,false),.mv (.tmp 0)⟩,⟨some 37,some (35,false),.iStr (.tmp 36) (.const (.int .i64 0))⟩,⟨some 38,some (35,false),.bin .eql (.tmp 37) (.const (.int .u8 43))⟩,⟨some 39,none,.pick (.tmp 35) (.const (.bool true)) (.tmp 38)⟩]) (.cond (.tmp 39) (.seq (.ops [⟨some 40,none,.mv (.tmp 0)⟩,⟨some 41,none,.slS (.tmp 40) (some (.const (.int .i64 1))) none⟩,⟨some 0,none,.mv (.tmp 41)⟩]) (.seq (.ops [⟨some 42,none,.mv (.tmp 0)⟩,⟨some 43,none,.lenS true (.tmp 42)⟩,⟨some 44,none,.bin .lss (.tmp 43) (.const (.int .i64 1))⟩]) (.cond (.tmp 44) (.seq (.ops [⟨some 45,none,.mkI 174 (.const (.int .i64 2))⟩,⟨some 2,none,.mv (.const (.int .i64 0))⟩,⟨some 3,none,.mv (.tmp 45)⟩]) .ret) .skip))) .skip)) (.seq (.ops [⟨some 6,none,.mv (.const (.int .i64 0))⟩]) (.seq (.seq (.ops [⟨some 46,none,.mv (.tmp 0)⟩,⟨some 47,none,.toBytes 5 (.tmp 46)⟩,⟨some 48,none,.lenS false (.tmp 47)⟩,⟨some 49,none,.mv (.const (.int .i64 0))⟩]) (.block 0 (.loop c87_0))) (.seq (.seq (.ops [⟨some 64,none,.mv (.tmp 5)⟩,⟨some 65,none,.iStr (.tmp 64) (.const (.int .i64 0))⟩,⟨some 66,none,.bin .eql (.tmp 65) (.const (.int .u8 45))⟩]) (.cond (.tmp 66) (.ops [⟨some 67,none,.mv (.tmp 6)⟩,⟨some 68,none,.un .neg (.tmp 67)⟩,⟨some 6,none,.mv (.tmp 68)⟩]) .skip)) (.seq (.ops [⟨some 69,none,.mv (.tmp 6)⟩,⟨some 2,none,.mv (.tmp 69)⟩,⟨some 3,none,.mv (.const .nilIface)⟩]) .ret)))))) .skip)) (.seq (.ops [⟨some 71,none,.mv (.tmp 0)⟩,⟨some 72,none,.call 120 [.tmp 71,.const (.int .i64 10),.const (.int .i64 0)]⟩,⟨some 70,none,.mv (.tmp 72)⟩,⟨some 73,none,.extr (.tmp 70) 0⟩,⟨some 74,none,.extr (.tmp 70) 1⟩,⟨some 9,none,.mv (.tmp 73)⟩,⟨some 10,none,.mv (.tmp 74)⟩]) (.seq (.ops [⟨some 75,none,.mv (.tmp 9)⟩,⟨some 76,none,.mv (.tmp 10)⟩,⟨some 2,none,.mv (.tmp 75)⟩,⟨some 3,none,.mv (.tmp 76)⟩]) .ret))))
theorem k87 : compF Tryz.prog Tryz.f87 = some (c87, [2, 3]) := by kernel_rfl
theorem n87 : Tryz.f87.ntmps = 77 := by kernel_rfl
def c50 : AC := .seq (.ops [⟨some 2,none,.mv (.const (.int .i64 0))⟩,⟨some 3,none,.mv (.const .nilIface)⟩]) (.seq (.ops [⟨some 7,none,.mv (.tmp 0)⟩,⟨some 8,none,.call 87 [.tmp 7]⟩,⟨some 6,none,.mv (.tmp 8)⟩,⟨some 9,none,.extr (.tmp 6) 0⟩,⟨some 10,none,.extr (.tmp 6) 1⟩,⟨some 4,none,.mv (.tmp 9)⟩,⟨some 5,none,.mv (.tmp 10)⟩]) (.seq (.seq (.ops [⟨some 11,none,.mv (.tmp 5)⟩,⟨some 12,none,.eqv true .ifc (.tmp 11) (.const .nilIface)⟩]) (.cond (.tmp 12) (.seq (.ops [⟨some 13,none,.mv (.tmp 4)⟩,⟨some 14,none,.mv (.tmp 0)⟩,⟨some 15,none,.mv (.tmp 5)⟩,⟨some 16,none,.call 88 [.const (.string ⟨⟨[65,116,111,105]⟩⟩),.tmp 14,.const (.int .i64 0),.const (.int .i64 0),.tmp 15]⟩,⟨some 2,none,.mv (.tmp 13)⟩,⟨some 3,none,.mv (.tmp 16)⟩]) .ret) .skip)) (.seq (.ops [⟨some 17,none,.mv (.tmp 4)⟩,⟨some 2,none,.mv (.tmp 17)⟩,⟨some 3,none,.mv (.const .nilIface)⟩]) .ret)))
theorem k50 : compF Tryz.prog Tryz.f50 = some (c50, [2, 3]) := by kernel_rfl
theorem n50 : Tryz.f50.ntmps = 18 := by kernel_rfl
def isDig (c : UInt8) : Prop := 48 ≤ c.toNat ∧ c.toNat ≤ 57
def nval (l : List UInt8) : Nat := l.foldl (fun n c => 10 * n + (c.toNat - 48)) 0
theorem nval_app (l : List UInt8) (c : UInt8) : nval (l ++ [c]) = 10 * nval l + (c.toNat - 48) := by simp [nval]
theorem nval_take (l : List UInt8) (i : Nat) (h : i < l.length) : nval (l.take (i + 1)) = 10 * nval (l.take i) + (l[i].toNat - 48) := by rw [List.take_succ_eq_append_getElem h, nval_app]
theorem nval_lt (l : List UInt8) (hd : ∀ c ∈ l, isDig c) : ∀ i, i ≤ l.length → nval (l.take i) < 10 ^ i
  | 0, _ => by simp [nval]
  | i + 1, h => by
    have ih := nval_lt l hd i (by omega)
    have := hd l[i] (List.getElem_mem _)
    unfold isDig at this
    rw [nval_take l i (by omega), Nat.pow_succ]
    omega
theorem digN_dig : ∀ (k u : Nat), ∀ c ∈ digN k u, isDig c
  | 0, _, c, h => by cases h
  | k + 1, u, c, h => by
    rw [digN] at h
    rcases List.mem_append.1 h with h | h
    · exact digN_dig k _ c h
    · simp only [List.mem_singleton] at h
      subst h
      unfold isDig
      rw [UInt8.toNat_ofNat']
      omega
theorem nval_digN : ∀ (k u : Nat), u < 10 ^ k → nval (digN k u) = u
  | 0, u, h => by simp at h; subst h; rfl
  | k + 1, u, h => by
    rw [Nat.pow_succ] at h
    rw [digN, nval_app, nval_digN k (u / 10) (by omega), UInt8.toNat_ofNat']
    omega
theorem dec_ne (u : Nat) (hu : u < 2 ^ 64) : dec u ≠ [] := by
  intro q
  have := dec_len u
  rw [q] at this
  have := ndig_spec u hu
  simp at *
  omega
theorem dec_val (u : Nat) (hu : u < 2 ^ 64) : nval (dec u) = u := nval_digN _ _ (ndig_spec u hu).2.2
theorem dec_dig (u : Nat) : ∀ c ∈ dec u, isDig c := digN_dig _ _
theorem ndig_small {u k : Nat} (h : u < 10 ^ k) (h0 : 0 < k) (hk : k ≤ 20) : ndig u ≤ k := by
  obtain ⟨j, h1, h2, h3⟩ := ndig_ex k u hk h0 h
  rw [ndig_eq (by omega) h2 h3]
  omega
def RD (l : List UInt8) (v : Value) : Prop := ∀ m : Int, -100000000000000000 < m → m < 100000000000000000 → l = itoaB m → v = .tuple #[.int .i64 m, .nilIface]
theorem itoaB_len (m : Int) (h1 : -100000000000000000 < m) (h2 : m < 100000000000000000) : 1 ≤ (itoaB m).length ∧ (itoaB m).length ≤ 18 := by
  unfold itoaB
  split
  · have := ndig_small (u := m.natAbs) (k := 17) (by omega) (by omega) (by omega)
    rw [List.length_cons, dec_len]
    omega
  · have h3 := ndig_small (u := m.toNat) (k := 17) (by omega) (by omega) (by omega)
    have h4 := (ndig_spec m.toNat (by omega)).1
    rw [dec_len]
    omega
theorem itoaB_head {m : Int} {c : UInt8} {r : List UInt8} (h1 : -100000000000000000 < m) (h2 : m < 100000000000000000) (h : c :: r = itoaB m) :
    (c.toNat = 45 ∧ m < 0 ∧ r = dec m.natAbs) ∨ (isDig c ∧ 0 ≤ m ∧ c :: r = dec m.toNat) := by
  unfold itoaB at h
  split at h
  · rename_i hm
    obtain ⟨rfl, rfl⟩ := List.cons.inj h
    exact .inl ⟨rfl, hm, rfl⟩
  · rename_i hm
    exact .inr ⟨dec_dig m.toNat c (by rw [← h]; simp), by omega, h⟩
theorem u8sub (c : Nat) (h : c < 256) : (48 ≤ c ∧ c ≤ 57 → IntKind.u8.wrap ((c : Int) - 48) = ((c - 48 : Nat) : Int)) ∧ (¬ (48 ≤ c ∧ c ≤ 57) → (9 : Int) < IntKind.u8.wrap ((c : Int) - 48)) := by
  refine ⟨fun hd => ?_, fun hd => ?_⟩
  · unfold IntKind.wrap; simp [IntKind.bits, IntKind.signed]; omega
  · unfold IntKind.wrap; simp [IntKind.bits, IntKind.signed]; omega
theorem PU.zero2 : PU .i64 (.tuple #[.int .i64 0, .iface ET (.int .i64 2)]) := PU.err _ _ (.inr rfl) (fun _ => rfl)
theorem iatoi_ok (l : List UInt8) (hl : l.length ≤ 1000000) (h : Heap) : ACalls Tryz.prog 87 [.string (bs l)] h fun v h' => (PU .i64 v ∧ RD l v) ∧ h' = h := by
  refine ACalls.same' (R := fun v => PU .i64 v ∧ RD l v) (fun v hv => hv.1.below _) (acalls_of mix Tryz.func87 k87 n87 (by simp) fun hcl hb => ?_)
  have hss : (bs l).size = l.length := bs_size l
  by_cases hlen : 0 < l.length ∧ l.length < 19
  · obtain ⟨c, r, rfl⟩ : ∃ c r, l = c :: r := by cases l with | nil => simp at hlen | cons a b => exact ⟨a, b, rfl⟩
    have hrl : r.length < 18 := by simp at hlen; omega
    have hs : (bs (c :: r)).size = r.length + 1 := by rw [bs_size]; rfl
    have n1 : (0 : Int) < ((r.length + 1 : Nat) : Int) := by omega
    have n2 : ((r.length + 1 : Nat) : Int) < 19 := by omega
    have hd : (bs (c :: r)).data[0]? = some c := by
      have : (bs (c :: r)).data.toList[0]? = some c := by rw [bs_data]; rfl
      simpa using this
    have hd' : ∀ hh : 0 < (bs (c :: r)).data.size, (bs (c :: r)).data[0]'hh = c := fun hh => by have := hd; rw [Array.getElem?_eq_getElem hh] at this; exact Option.some.inj this
    have hi0 : aidx (.int .i64 0) (r.length + 1) = some 0 := aidx_of (i := 0) (by omega)
    have b1 : abounds (r.length + 1) (r.length + 1) (some (.int .i64 1)) none none = some (1, r.length + 1, r.length + 1) := abounds_lo (l := 1) (by omega) (by omega)
    have hx : (bs (c :: r)).extract 1 (r.length + 1) = bs r := by
      rw [bs_extract]
      simp
    simp only [c87, s_seq, s_ops]
    simp [hs, n1, n2, -Int.natCast_add]
    by_cases c1 : c.toNat = 45
    · have c1' : ((c.toNat : Int) = 45) = True := eq_true (by omega)
      have head : ∀ m : Int, -100000000000000000 < m → m < 100000000000000000 → c :: r = itoaB m → (∀ x ∈ r, isDig x) ∧ m = -((nval r : Nat) : Int) := fun m m1 m2 hm => by
        rcases itoaB_head m1 m2 hm with ⟨_, h2, rfl⟩ | ⟨h1, _, _⟩
        · exact ⟨dec_dig _, by rw [dec_val _ (by omega)]; omega⟩
        · unfold isDig at h1; omega
      by_cases hr0 : r = []
      · have hz : (r.length : Int) < 1 := by rw [hr0]; decide
        have hsr : (bs r).size = r.length := bs_size r
        simp [hs, hd, hd', hi0, c1, c1', b1, hx, hsr, hz]
        have hs0 : (bs []).size = 0 := rfl
        refine ⟨⟨PU.zero2, fun m m1 m2 hm => ?_⟩, Heap.Ext.refl h⟩
        rcases itoaB_head m1 m2 hm with ⟨_, h2, h3⟩ | ⟨h1, _, _⟩
        · exact absurd (h3.symm.trans hr0) (dec_ne _ (by omega))
        · unfold isDig at h1; omega
      · have hrp : 0 < r.length := by cases r with | nil => exact absurd rfl hr0 | cons a b => simp
        have hr1 : ¬ (r.length : Int) < 1 := by omega
        have hsr : (bs r).size = r.length := bs_size r
        have hr1' : ¬ r = [] := hr0
        have hszR : (bs r).size ≤ 1099511627776 := by rw [bs_size]; first | omega | (simp; omega)
        have hb2 : (List.map (fun b => Value.int .u8 (b.toNat : Int)) (bs r).data.toList) = ubs r := by rw [bs_data]; rfl
        have hRl : r.length ≤ 18 := by first | omega | (simp; omega)
        have hszR2 : r.length ≤ 1099511627776 := by omega
        have hszR3 : r.length + 1 ≤ 1099511627776 := by omega
        have hsR : (bs r).size = r.length := bs_size _
        simp [hs, hd, hd', hi0, c1, c1', b1, hx, hsr, hr1, hr1', hszR, hszR2, hszR3]
        rw [hb2]
        have hc1 : (h.push (.cells (ubs r) (.loose 5) 1)).Closed := closed_push hcl ubs_bel
        have hf1 := cellsOf_new h (ubs r) (.loose 5) 1
        have e1 := (Heap.Ext.refl h).push hcl (.cells (ubs r) (.loose 5) 1)
        try rw [hsR]
        refine awp_loop_of (α := Nat) (fun i => i ≤ r.length ∧ ∀ j (hj : j < r.length), j < i → isDig r[j])
          (fun i => [(5, .string (bs (c :: r))), (6, .int .i64 (nval (r.take i) : Nat)), (47, .slice (some ⟨h.n, 0, none⟩) r.length r.length), (48, .int .i64 r.length), (49, .int .i64 i)])
          (fun _ => h.push (.cells (ubs r) (.loose 5) 1)) (fun i => r.length - i) 0 ⟨Nat.zero_le _, fun j _ h => absurd h (by omega)⟩ ⟨Nat.le_succ _, Nat.le_refl _, fun _ _ e => e, hc1⟩
          (by simp [nval]; repeat' (first | exact .int | exact .bool | exact .string | exact vb_slice (Nat.lt_succ_self _) | rfl | apply And.intro)) ?_
        rintro i ⟨hi, hdg⟩
        by_cases hil : i < r.length
        · have hil' : (i : Int) < r.length := by omega
          have hg := ubs_get hil
          have hltu : i < (ubs r).length := by rw [ubs_len]; exact hil
          have hg' : (ubs r)[i] = .int .u8 (r[i].toNat : Int) := by rw [List.getElem?_eq_getElem hltu] at hg; exact Option.some.inj hg
          have hcb := r[i].toNat_lt
          have w4 : IntKind.i64.wrap ((i : Int) + 1) = ((i + 1 : Nat) : Int) := w1 i (by omega)
          have hu8 := u8sub r[i].toNat hcb
          by_cases hdig : 48 ≤ r[i].toNat ∧ r[i].toNat ≤ 57
          · have g1 := hu8.1 hdig
            have g2 : ¬ (9 : Int) < ((r[i].toNat - 48 : Nat) : Int) := by omega
            have hnt := nval_take r i hil
            have hall : ∀ x ∈ r.take i, isDig x := fun x hx => by
              obtain ⟨j, hj, rfl⟩ := List.mem_iff_getElem.1 hx
              rw [List.getElem_take]
              exact hdg j _ (by rw [List.length_take] at hj; omega)
            have hb := nval_lt (r.take i) hall i (by rw [List.length_take]; omega)
            rw [List.take_take, Nat.min_self] at hb
            have hp : 10 ^ i ≤ 10 ^ 17 := Nat.pow_le_pow_right (by omega) (by omega)
            have hp' : (10 : Nat) ^ 17 = 100000000000000000 := rfl
            have g3 : IntKind.i64.wrap ((r[i].toNat - 48 : Nat) : Int) = ((r[i].toNat - 48 : Nat) : Int) := i64w _ (by omega)
            have g4 : IntKind.i64.wrap (((nval (r.take i) : Nat) : Int) * 10) = ((10 * nval (r.take i) : Nat) : Int) := by rw [IntWalk.i64_in _ (by omega)]; omega
            have g5 : IntKind.i64.wrap (((10 * nval (r.take i) : Nat) : Int) + ((r[i].toNat - 48 : Nat) : Int)) = ((nval (r.take (i + 1)) : Nat) : Int) := by rw [hnt, IntWalk.i64_in _ (by omega)]; omega
            generalize hxx : r[i].toNat - 48 = X at *
            simp [c87_0, hil', aidx_of hil, hf1, apart, hltu, hg', g1, g2, g3, g4, g5, w4, -Int.natCast_add, -Int.natCast_mul]
            refine ⟨i + 1, by omega, ⟨by omega, fun j hj hj2 => ?_⟩, ⟨Nat.le_succ _, Nat.le_refl _, fun _ _ e => e, hc1⟩, by repeat' (first | exact .int | exact .bool | exact .string | exact vb_slice (Nat.lt_succ_self _) | rfl | apply And.intro)⟩
            by_cases hji : j = i
            · subst hji; exact hdig
            · exact hdg j hj (by omega)
          · have g1 := hu8.2 hdig
            simp [c87_0, hil', aidx_of hil, hf1, apart, hltu, hg', g1]
            refine ⟨⟨PU.zero2, fun m m1 m2 hm => ?_⟩, e1⟩
            exact absurd ((head m m1 m2 hm).1 r[i] (List.getElem_mem _)) hdig
        · have hie : i = r.length := by omega
          have hil' : ¬ (i : Int) < r.length := by omega
          subst hie
          rw [List.take_of_length_le (Nat.le_refl _)]
          have hlt64 : nval r < 1000000000000000000 := by
            have := nval_lt r (fun x hx => by obtain ⟨j, hj, rfl⟩ := List.mem_iff_getElem.1 hx; exact hdg j hj hj) r.length (Nat.le_refl _)
            rw [List.take_of_length_le (Nat.le_refl _)] at this
            exact Nat.lt_of_lt_of_le this (Nat.pow_le_pow_right (by omega) hRl)
          have hng : IntKind.i64.wrap (-((nval r : Nat) : Int)) = -((nval r : Nat) : Int) := IntWalk.i64_in _ (by omega)
          have hng' : IntKind.i64.wrap (0 - ((nval r : Nat) : Int)) = -((nval r : Nat) : Int) := by rw [Int.zero_sub]; exact hng
          simp [c87_0, hil', hs, hd, hd', hi0, aun, c1, c1', hng, hng', -Int.natCast_add]
          exact ⟨⟨PU.nil _ (fun _ => IntWalk.i64_in _ (by omega)), fun m m1 m2 hm => by rw [(head m m1 m2 hm).2]⟩, e1⟩
    · have c1' : ¬ (c.toNat : Int) = 45 := by omega
      by_cases c2 : c.toNat = 43
      · have c2' : ((c.toNat : Int) = 43) = True := eq_true (by omega)
        have head : ∀ m : Int, -100000000000000000 < m → m < 100000000000000000 → c :: r = itoaB m → (∀ x ∈ r, isDig x) ∧ m = ((nval r : Nat) : Int) := fun m m1 m2 hm => by
          rcases itoaB_head m1 m2 hm with ⟨h1, _, _⟩ | ⟨h1, _, _⟩
          · omega
          · unfold isDig at h1; omega
        by_cases hr0 : r = []
        · have hz : (r.length : Int) < 1 := by rw [hr0]; decide
          have hsr : (bs r).size = r.length := bs_size r
          simp [hs, hd, hd', hi0, c1, c1', c2, c2', b1, hx, hsr, hz]
          refine ⟨⟨PU.zero2, fun m m1 m2 hm => ?_⟩, Heap.Ext.refl h⟩
          rcases itoaB_head m1 m2 hm with ⟨h1, h2, h3⟩ | ⟨h1, _, _⟩
          · omega
          · unfold isDig at h1; omega
        · have hrp : 0 < r.length := by cases r with | nil => exact absurd rfl hr0 | cons a b => simp
          have hr1 : ¬ (r.length : Int) < 1 := by omega
          have hsr : (bs r).size = r.length := bs_size r
          have hr1' : ¬ r = [] := hr0
          have hszR : (bs r).size ≤ 1099511627776 := by rw [bs_size]; first | omega | (simp; omega)
          have hb2 : (List.map (fun b => Value.int .u8 (b.toNat : Int)) (bs r).data.toList) = ubs r := by rw [bs_data]; rfl
          have hRl : r.length ≤ 18 := by first | omega | (simp; omega)
          have hszR2 : r.length ≤ 1099511627776 := by omega
          have hszR3 : r.length + 1 ≤ 1099511627776 := by omega
          have hsR : (bs r).size = r.length := bs_size _
          simp [hs, hd, hd', hi0, c1, c1', c2, c2', b1, hx, hsr, hr1, hr1', hszR, hszR2, hszR3]
          rw [hb2]
          have hc1 : (h.push (.cells (ubs r) (.loose 5) 1)).Closed := closed_push hcl ubs_bel
          have hf1 := cellsOf_new h (ubs r) (.loose 5) 1
          have e1 := (Heap.Ext.refl h).push hcl (.cells (ubs r) (.loose 5) 1)
          try rw [hsR]
          refine awp_loop_of (α := Nat) (fun i => i ≤ r.length ∧ ∀ j (hj : j < r.length), j < i → isDig r[j])
            (fun i => [(5, .string (bs (c :: r))), (6, .int .i64 (nval (r.take i) : Nat)), (47, .slice (some ⟨h.n, 0, none⟩) r.length r.length), (48, .int .i64 r.length), (49, .int .i64 i)])
            (fun _ => h.push (.cells (ubs r) (.loose 5) 1)) (fun i => r.length - i) 0 ⟨Nat.zero_le _, fun j _ h => absurd h (by omega)⟩ ⟨Nat.le_succ _, Nat.le_refl _, fun _ _ e => e, hc1⟩
            (by simp [nval]; repeat' (first | exact .int | exact .bool | exact .string | exact vb_slice (Nat.lt_succ_self _) | rfl | apply And.intro)) ?_
          rintro i ⟨hi, hdg⟩
          by_cases hil : i < r.length
          · have hil' : (i : Int) < r.length := by omega
            have hg := ubs_get hil
            have hltu : i < (ubs r).length := by rw [ubs_len]; exact hil
            have hg' : (ubs r)[i] = .int .u8 (r[i].toNat : Int) := by rw [List.getElem?_eq_getElem hltu] at hg; exact Option.some.inj hg
            have hcb := r[i].toNat_lt
            have w4 : IntKind.i64.wrap ((i : Int) + 1) = ((i + 1 : Nat) : Int) := w1 i (by omega)
            have hu8 := u8sub r[i].toNat hcb
            by_cases hdig : 48 ≤ r[i].toNat ∧ r[i].toNat ≤ 57
            · have g1 := hu8.1 hdig
              have g2 : ¬ (9 : Int) < ((r[i].toNat - 48 : Nat) : Int) := by omega
              have hnt := nval_take r i hil
              have hall : ∀ x ∈ r.take i, isDig x := fun x hx => by
                obtain ⟨j, hj, rfl⟩ := List.mem_iff_getElem.1 hx
                rw [List.getElem_take]
                exact hdg j _ (by rw [List.length_take] at hj; omega)
              have hb := nval_lt (r.take i) hall i (by rw [List.length_take]; omega)
              rw [List.take_take, Nat.min_self] at hb
              have hp : 10 ^ i ≤ 10 ^ 17 := Nat.pow_le_pow_right (by omega) (by omega)
              have hp' : (10 : Nat) ^ 17 = 100000000000000000 := rfl
              have g3 : IntKind.i64.wrap ((r[i].toNat - 48 : Nat) : Int) = ((r[i].toNat - 48 : Nat) : Int) := i64w _ (by omega)
              have g4 : IntKind.i64.wrap (((nval (r.take i) : Nat) : Int) * 10) = ((10 * nval (r.take i) : Nat) : Int) := by rw [IntWalk.i64_in _ (by omega)]; omega
              have g5 : IntKind.i64.wrap (((10 * nval (r.take i) : Nat) : Int) + ((r[i].toNat - 48 : Nat) : Int)) = ((nval (r.take (i + 1)) : Nat) : Int) := by rw [hnt, IntWalk.i64_in _ (by omega)]; omega
              generalize hxx : r[i].toNat - 48 = X at *
              simp [c87_0, hil', aidx_of hil, hf1, apart, hltu, hg', g1, g2, g3, g4, g5, w4, -Int.natCast_add, -Int.natCast_mul]
              refine ⟨i + 1, by omega, ⟨by omega, fun j hj hj2 => ?_⟩, ⟨Nat.le_succ _, Nat.le_refl _, fun _ _ e => e, hc1⟩, by repeat' (first | exact .int | exact .bool | exact .string | exact vb_slice (Nat.lt_succ_self _) | rfl | apply And.intro)⟩
              by_cases hji : j = i
              · subst hji; exact hdig
              · exact hdg j hj (by omega)
            · have g1 := hu8.2 hdig
              simp [c87_0, hil', aidx_of hil, hf1, apart, hltu, hg', g1]
              refine ⟨⟨PU.zero2, fun m m1 m2 hm => ?_⟩, e1⟩
              exact absurd ((head m m1 m2 hm).1 r[i] (List.getElem_mem _)) hdig
          · have hie : i = r.length := by omega
            have hil' : ¬ (i : Int) < r.length := by omega
            subst hie
            rw [List.take_of_length_le (Nat.le_refl _)]
            have hlt64 : nval r < 1000000000000000000 := by
              have := nval_lt r (fun x hx => by obtain ⟨j, hj, rfl⟩ := List.mem_iff_getElem.1 hx; exact hdg j hj hj) r.length (Nat.le_refl _)
              rw [List.take_of_length_le (Nat.le_refl _)] at this
              exact Nat.lt_of_lt_of_le this (Nat.pow_le_pow_right (by omega) hRl)
            simp [c87_0, hil', hs, hd, hd', hi0, aun, c1, c1', c2, c2', -Int.natCast_add]
            exact ⟨⟨PU.nil _ (fun _ => IntWalk.i64_in _ (by omega)), fun m m1 m2 hm => by rw [(head m m1 m2 hm).2]⟩, e1⟩
      · have c2' : ¬ (c.toNat : Int) = 43 := by omega
        have head : ∀ m : Int, -100000000000000000 < m → m < 100000000000000000 → c :: r = itoaB m → (∀ x ∈ c :: r, isDig x) ∧ m = ((nval (c :: r) : Nat) : Int) := fun m m1 m2 hm => by
          rcases itoaB_head m1 m2 hm with ⟨h1, _, _⟩ | ⟨_, h2, h3⟩
          · omega
          · rw [h3]; exact ⟨dec_dig _, by rw [dec_val _ (by omega)]; omega⟩
        have hszR : (bs (c :: r)).size ≤ 1099511627776 := by rw [bs_size]; first | omega | (simp; omega)
        have hb2 : (List.map (fun b => Value.int .u8 (b.toNat : Int)) (bs (c :: r)).data.toList) = ubs (c :: r) := by rw [bs_data]; rfl
        have hRl : (c :: r).length ≤ 18 := by first | omega | (simp; omega)
        have hszR2 : r.length ≤ 1099511627776 := by omega
        have hszR3 : r.length + 1 ≤ 1099511627776 := by omega
        have hsR : (bs (c :: r)).size = (c :: r).length := bs_size _
        simp [hs, hd, hd', hi0, c1, c1', c2, c2', hszR, hszR2, hszR3]
        rw [hb2]
        obtain ⟨R, hR⟩ : ∃ R, R = c :: r := ⟨_, rfl⟩
        have hRlen : R.length = r.length + 1 := by rw [hR]; rfl
        rw [← hR] at hRl hsR hs hd hd' head ⊢
        rw [← hRlen] at hs hi0
        have hc1 : (h.push (.cells (ubs R) (.loose 5) 1)).Closed := closed_push hcl ubs_bel
        have hf1 := cellsOf_new h (ubs R) (.loose 5) 1
        have e1 := (Heap.Ext.refl h).push hcl (.cells (ubs R) (.loose 5) 1)
        try rw [hsR]
        refine awp_loop_of (α := Nat) (fun i => i ≤ R.length ∧ ∀ j (hj : j < R.length), j < i → isDig R[j])
          (fun i => [(5, .string (bs R)), (6, .int .i64 (nval (R.take i) : Nat)), (47, .slice (some ⟨h.n, 0, none⟩) R.length R.length), (48, .int .i64 R.length), (49, .int .i64 i)])
          (fun _ => h.push (.cells (ubs R) (.loose 5) 1)) (fun i => R.length - i) 0 ⟨Nat.zero_le _, fun j _ h => absurd h (by omega)⟩ ⟨Nat.le_succ _, Nat.le_refl _, fun _ _ e => e, hc1⟩
          (by simp [nval, hRlen]; repeat' (first | exact .int | exact .bool | exact .string | exact vb_slice (Nat.lt_succ_self _) | rfl | apply And.intro)) ?_
        rintro i ⟨hi, hdg⟩
        by_cases hil : i < R.length
        · have hil' : (i : Int) < R.length := by omega
          have hg := ubs_get hil
          have hltu : i < (ubs R).length := by rw [ubs_len]; exact hil
          have hg' : (ubs R)[i] = .int .u8 (R[i].toNat : Int) := by rw [List.getElem?_eq_getElem hltu] at hg; exact Option.some.inj hg
          have hcb := R[i].toNat_lt
          have w4 : IntKind.i64.wrap ((i : Int) + 1) = ((i + 1 : Nat) : Int) := w1 i (by omega)
          have hu8 := u8sub R[i].toNat hcb
          by_cases hdig : 48 ≤ R[i].toNat ∧ R[i].toNat ≤ 57
          · have g1 := hu8.1 hdig
            have g2 : ¬ (9 : Int) < ((R[i].toNat - 48 : Nat) : Int) := by omega
            have hnt := nval_take R i hil
            have hall : ∀ x ∈ R.take i, isDig x := fun x hx => by
              obtain ⟨j, hj, rfl⟩ := List.mem_iff_getElem.1 hx
              rw [List.getElem_take]
              exact hdg j _ (by rw [List.length_take] at hj; omega)
            have hb := nval_lt (R.take i) hall i (by rw [List.length_take]; omega)
            rw [List.take_take, Nat.min_self] at hb
            have hp : 10 ^ i ≤ 10 ^ 17 := Nat.pow_le_pow_right (by omega) (by omega)
            have hp' : (10 : Nat) ^ 17 = 100000000000000000 := rfl
            have g3 : IntKind.i64.wrap ((R[i].toNat - 48 : Nat) : Int) = ((R[i].toNat - 48 : Nat) : Int) := i64w _ (by omega)
            have g4 : IntKind.i64.wrap (((nval (R.take i) : Nat) : Int) * 10) = ((10 * nval (R.take i) : Nat) : Int) := by rw [IntWalk.i64_in _ (by omega)]; omega
            have g5 : IntKind.i64.wrap (((10 * nval (R.take i) : Nat) : Int) + ((R[i].toNat - 48 : Nat) : Int)) = ((nval (R.take (i + 1)) : Nat) : Int) := by rw [hnt, IntWalk.i64_in _ (by omega)]; omega
            generalize hxx : R[i].toNat - 48 = X at *
            simp [c87_0, hil', aidx_of hil, hf1, apart, hltu, hg', g1, g2, g3, g4, g5, w4, -Int.natCast_add, -Int.natCast_mul]
            refine ⟨i + 1, by omega, ⟨by omega, fun j hj hj2 => ?_⟩, ⟨Nat.le_succ _, Nat.le_refl _, fun _ _ e => e, hc1⟩, by repeat' (first | exact .int | exact .bool | exact .string | exact vb_slice (Nat.lt_succ_self _) | rfl | apply And.intro)⟩
            by_cases hji : j = i
            · subst hji; exact hdig
            · exact hdg j hj (by omega)
          · have g1 := hu8.2 hdig
            simp [c87_0, hil', aidx_of hil, hf1, apart, hltu, hg', g1]
            refine ⟨⟨PU.zero2, fun m m1 m2 hm => ?_⟩, e1⟩
            exact absurd ((head m m1 m2 hm).1 R[i] (List.getElem_mem _)) hdig
        · have hie : i = R.length := by omega
          have hil' : ¬ (i : Int) < R.length := by omega
          subst hie
          rw [List.take_of_length_le (Nat.le_refl _)]
          have hlt64 : nval R < 1000000000000000000 := by
            have := nval_lt R (fun x hx => by obtain ⟨j, hj, rfl⟩ := List.mem_iff_getElem.1 hx; exact hdg j hj hj) R.length (Nat.le_refl _)
            rw [List.take_of_length_le (Nat.le_refl _)] at this
            exact Nat.lt_of_lt_of_le this (Nat.pow_le_pow_right (by omega) hRl)
          simp [c87_0, hil', hs, hd, hd', hi0, aun, c1, c1', c2, c2', -Int.natCast_add]
          exact ⟨⟨PU.nil _ (fun _ => IntWalk.i64_in _ (by omega)), fun m m1 m2 hm => by rw [(head m m1 m2 hm).2]⟩, e1⟩
  · have slow : ∀ m : Int, -100000000000000000 < m → m < 100000000000000000 → l ≠ itoaB m := fun m m1 m2 hm => by
      have := itoaB_len m m1 m2
      rw [← hm] at this
      omega
    have fin : ∀ (h' : Heap) v, PU .i64 v → h' = h → (PU .i64 v ∧ RD l v) ∧ h.Ext h' := fun h' v hv e => by
      subst e
      exact ⟨⟨hv, fun m m1 m2 hm => absurd hm (slow m m1 m2)⟩, Heap.Ext.refl _⟩
    by_cases hl0 : l = []
    · subst hl0
      have hs0 : (bs []).size = 0 := rfl
      simp [c87, hs0]
      refine (pint_ok [] hl h).mono ?_
      rintro _ h9 ⟨⟨x, e, rfl, he, hx⟩, e'⟩
      simp
      exact fin _ _ ⟨x, e, rfl, he, hx⟩ e'
    · have hlp : 0 < l.length := by cases l with | nil => exact absurd rfl hl0 | cons a b => simp
      have n1 : (0 : Int) < (l.length : Int) := by omega
      have n2 : ¬ (l.length : Int) < 19 := by omega
      simp [c87, hss, n1, n2, hlp, hl0]
      refine (pint_ok l hl h).mono ?_
      rintro _ h9 ⟨⟨x, e, rfl, he, hx⟩, e'⟩
      simp
      exact fin _ _ ⟨x, e, rfl, he, hx⟩ e'
def AT (l : List UInt8) (v : Value) : Prop := (∃ x e, v = .tuple #[.int .i64 x, e] ∧ (e = .nilIface ∨ e = .iface NT unk) ∧ IntKind.i64.wrap x = x) ∧ RD l v
theorem atoi_ok (l : List UInt8) (hl : l.length ≤ 1000000) (h : Heap) : ACalls Tryz.prog 50 [.string (bs l)] h fun v h' => AT l v ∧ h' = h := by
  refine acalls_of mix Tryz.func50 k50 n50 (by simp) fun hcl hb => ?_
  simp [c50]
  refine (iatoi_ok l hl h).mono ?_
  rintro _ h9 ⟨⟨⟨x, e, rfl, he, hx⟩, hrd⟩, e'⟩
  rw [e']; clear e' h9
  rcases he with rfl | ⟨q, rfl, hq⟩
  · simp [aeq]
    exact ⟨⟨x, _, rfl, .inl rfl, hx rfl⟩, hrd⟩
  · simp [aeq]
    refine (toErr_ok [65, 116, 111, 105] l q hq hl h).mono ?_
    rintro _ h9 ⟨rfl, rfl⟩
    simp
    refine ⟨⟨x, _, rfl, .inr rfl, hx rfl⟩, fun m m1 m2 hm => ?_⟩
    have := hrd m m1 m2 hm
    simp at this

def c105 : AC := .seq (.ops [⟨some 1,none,.box (.tmp 0)⟩,⟨some 2,none,.mv (.const (.bool false))⟩]) (.seq (.ops [⟨some 3,none,.iAddrA 3 1 (.tmp 1) (.const (.int .i64 0))⟩,⟨some 4,none,.load none (.tmp 3)⟩,⟨some 5,none,.bin .geq (.tmp 4) (.const (.int .i64 0))⟩,⟨some 6,none,.mv (.tmp 5)⟩,⟨some 7,some (6,true),.iAddrA 3 1 (.tmp 1) (.const (.int .i64 0))⟩,⟨some 8,some (6,true),.load none (.tmp 7)⟩,⟨some 9,some (6,true),.bin .lss (.tmp 8) (.const (.int .i64 65536))⟩,⟨some 10,none,.pick (.tmp 6) (.tmp 9) (.const (.bool false))⟩,⟨some 11,none,.mv (.tmp 10)⟩,⟨some 12,some (11,true),.iAddrA 3 1 (.tmp 1) (.const (.int .i64 1))⟩,⟨some 13,some (11,true),.load none (.tmp 12)⟩,⟨some 14,some (11,true),.bin .geq (.tmp 13) (.const (.int .i64 0))⟩,⟨some 15,none,.pick (.tmp 11) (.tmp 14) (.const (.bool false))⟩,⟨some 16,none,.mv (.tmp 15)⟩,⟨some 17,some (16,true),.iAddrA 3 1 (.tmp 1) (.const (.int .i64 1))⟩,⟨some 18,some (16,true),.load none (.tmp 17)⟩,⟨some 19,some (16,true),.bin .lss (.tmp 18) (.const (.int .i64 65536))⟩,⟨some 20,none,.pick (.tmp 16) (.tmp 19) (.const (.bool false))⟩,⟨some 21,none,.mv (.tmp 20)⟩,⟨some 22,some (21,true),.iAddrA 3 1 (.tmp 1) (.const (.int .i64 2))⟩,⟨some 23,some (21,true),.load none (.tmp 22)⟩,⟨some 24,some (21,true),.bin .geq (.tmp 23) (.const (.int .i64 0))⟩,⟨some 25,none,.pick (.tmp 21) (.tmp 24) (.const (.bool false))⟩,⟨some 26,none,.mv (.tmp 25)⟩,⟨some 27,some (26,true),.iAddrA 3 1 (.tmp 1) (.const (.int .i64 2))⟩,⟨some 28,some (26,true),.load none (.tmp 27)⟩,⟨some 29,some (26,true),.bin .lss (.tmp 28) (.const (.int .i64 65536))⟩,⟨some 30,none,.pick (.tmp 26) (.tmp 29) (.const (.bool false))⟩,⟨some 2,none,.mv (.tmp 30)⟩]) .ret)
theorem k105 : compF Tryz.prog Tryz.f105 = some (c105, [2]) := by kernel_rfl
theorem n105 : Tryz.f105.ntmps = 31 := by kernel_rfl
def c91_0 : AC := .seq (.ops [⟨some 7,none,.bin .lss (.tmp 6) (.const (.int .i64 3))⟩]) (.seq (.cond (.tmp 7) .skip (.exit 0)) (.seq (.block 1 (.seq (.ops [⟨some 8,none,.iValA 3 1 none (.tmp 5) (.tmp 6)⟩,⟨some 4,none,.mv (.tmp 8)⟩]) (.seq (.ops [⟨some 9,none,.mv (.tmp 4)⟩,⟨some 10,none,.bin .lss (.tmp 9) (.const (.int .i64 0))⟩,⟨some 11,none,.mv (.tmp 10)⟩,⟨some 12,some (11,false),.mv (.tmp 4)⟩,⟨some 13,some (11,false),.bin .gtr (.tmp 12) (.const (.int .i64 65535))⟩,⟨some 14,none,.pick (.tmp 11) (.const (.bool true)) (.tmp 13)⟩]) (.cond (.tmp 14) (.seq (.ops [⟨some 2,none,.mv (.const (.bool false))⟩]) .ret) .skip)))) (.ops [⟨some 15,none,.bin .add (.tmp 6) (.const (.int .i64 1))⟩,⟨some 6,none,.mv (.tmp 15)⟩])))
def c91 : AC := .seq (.ops [⟨some 1,none,.box (.tmp 0)⟩,⟨some 2,none,.mv (.const (.bool false))⟩]) (.seq (.seq (.ops [⟨some 5,none,.load (some 3) (.tmp 1)⟩,⟨some 6,none,.mv (.const (.int .i64 0))⟩]) (.block 0 (.loop c91_0))) (.seq (.ops [⟨some 2,none,.mv (.const (.bool true))⟩]) .ret))
theorem k91 : compF Tryz.prog Tryz.f91 = some (c91, [2]) := by kernel_rfl
theorem n91 : Tryz.f91.ntmps = 16 := by kernel_rfl
def c133_0 : AC := .seq (.seq (.ops [⟨some 12,none,.mv (.tmp 0)⟩,⟨some 13,none,.bin .geq (.tmp 12) (.const (.int .i64 10))⟩]) (.cond (.tmp 13) .skip (.exit 0))) (.block 1 (.seq (.ops [⟨some 14,none,.mv (.tmp 0)⟩,⟨some 15,none,.bin .quo (.tmp 14) (.const (.int .i64 10))⟩,⟨some 0,none,.mv (.tmp 15)⟩]) (.ops [⟨some 16,none,.mv (.tmp 3)⟩,⟨some 17,none,.mv (.tmp 0)⟩,⟨some 18,none,.bin .rem (.tmp 17) (.const (.int .i64 10))⟩,⟨some 19,none,.mv (.tmp 0)⟩,⟨some 20,none,.bin .rem (.tmp 19) (.const (.int .i64 10))⟩,⟨some 21,none,.bin .add (.tmp 20) (.const (.int .i64 1))⟩,⟨some 22,none,.slS (.tmp 16) (some (.tmp 18)) (some (.tmp 21))⟩,⟨some 23,none,.mv (.tmp 4)⟩,⟨some 24,none,.bin .add (.tmp 22) (.tmp 23)⟩,⟨some 4,none,.mv (.tmp 24)⟩])))
def c133 : AC := .seq (.ops [⟨some 2,none,.mv (.const (.string ⟨⟨[]⟩⟩))⟩]) (.seq (.ops [⟨some 3,none,.mv (.const (.string ⟨⟨[48,49,50,51,52,53,54,55,56,57]⟩⟩))⟩]) (.seq (.ops [⟨some 5,none,.mv (.tmp 3)⟩,⟨some 6,none,.mv (.tmp 0)⟩,⟨some 7,none,.bin .rem (.tmp 6) (.const (.int .i64 10))⟩,⟨some 8,none,.mv (.tmp 0)⟩,⟨some 9,none,.bin .rem (.tmp 8) (.const (.int .i64 10))⟩,⟨some 10,none,.bin .add (.tmp 9) (.const (.int .i64 1))⟩,⟨some 11,none,.slS (.tmp 5) (some (.tmp 7)) (some (.tmp 10))⟩,⟨some 4,none,.mv (.tmp 11)⟩]) (.seq (.block 0 (.loop c133_0)) (.seq (.ops [⟨some 25,none,.mv (.tmp 4)⟩,⟨some 2,none,.mv (.tmp 25)⟩]) .ret))))
theorem k133 : compF Tryz.prog Tryz.f133 = some (c133, [2]) := by kernel_rfl
theorem n133 : Tryz.f133.ntmps = 26 := by kernel_rfl
def c106 : AC := .seq (.ops [⟨some 1,none,.box (.tmp 0)⟩,⟨some 2,none,.mv (.const (.string ⟨⟨[]⟩⟩))⟩]) (.seq (.draw [([⟨some 3,none,.iAddrA 3 1 (.tmp 1) (.const (.int .i64 0))⟩,⟨some 4,none,.load none (.tmp 3)⟩,⟨some 7,none,.iAddrA 3 1 (.tmp 1) (.const (.int .i64 1))⟩,⟨some 8,none,.load none (.tmp 7)⟩,⟨some 12,none,.iAddrA 3 1 (.tmp 1) (.const (.int .i64 2))⟩,⟨some 13,none,.load none (.tmp 12)⟩],[⟨some 5,none,.call 133 [.tmp 4]⟩],[⟨some 8,none,.load none (.tmp 7)⟩,⟨some 13,none,.load none (.tmp 12)⟩]),([⟨some 6,none,.bin .add (.tmp 5) (.const (.string ⟨⟨[46]⟩⟩))⟩],[⟨some 9,none,.call 133 [.tmp 8]⟩],[⟨some 13,none,.load none (.tmp 12)⟩]),([⟨some 10,none,.bin .add (.tmp 6) (.tmp 9)⟩,⟨some 11,none,.bin .add (.tmp 10) (.const (.string ⟨⟨[46]⟩⟩))⟩],[⟨some 14,none,.call 133 [.tmp 13]⟩],[]),([⟨some 15,none,.bin .add (.tmp 11) (.tmp 14)⟩,⟨some 2,none,.mv (.tmp 15)⟩],[],[])]) .ret)
theorem k106 : compF Tryz.prog Tryz.f106 = some (c106, [2]) := by kernel_rfl
theorem n106 : Tryz.f106.ntmps = 16 := by kernel_rfl
def c57_0 : AC := .seq (.ops [⟨some 11,none,.bin .lss (.tmp 10) (.const (.int .i64 3))⟩]) (.seq (.cond (.tmp 11) .skip (.exit 0)) (.seq (.block 1 (.seq (.ops [⟨some 12,none,.iValA 3 1 none (.tmp 9) (.tmp 10)⟩,⟨some 5,none,.mv (.tmp 12)⟩]) (.ops [⟨some 13,none,.mv (.tmp 3)⟩,⟨some 14,none,.mv (.tmp 5)⟩,⟨some 15,none,.call 58 [.tmp 14]⟩,⟨some 16,none,.buildS 1 [.string ⟨⟨[]⟩⟩] [(0,1,.tmp 15)]⟩,⟨some 17,none,.app 1 16 9 (.tmp 13) (.tmp 16)⟩,⟨some 3,none,.mv (.tmp 17)⟩]))) (.ops [⟨some 18,none,.bin .add (.tmp 10) (.const (.int .i64 1))⟩,⟨some 10,none,.mv (.tmp 18)⟩])))
def c57 : AC := .seq (.ops [⟨some 1,none,.box (.tmp 0)⟩,⟨some 2,none,.mv (.const (.string ⟨⟨[]⟩⟩))⟩]) (.seq (.seq (.ops [⟨some 6,none,.load (some 3) (.tmp 1)⟩,⟨some 7,none,.call 91 [.tmp 6]⟩,⟨some 8,none,.un .not (.tmp 7)⟩]) (.cond (.tmp 8) (.seq (.ops [⟨some 2,none,.mv (.const (.string ⟨⟨[]⟩⟩))⟩]) .ret) .skip)) (.seq (.ops [⟨some 3,none,.mv (.const (.slice none 0 0))⟩]) (.seq (.seq (.ops [⟨some 9,none,.load (some 3) (.tmp 1)⟩,⟨some 10,none,.mv (.const (.int .i64 0))⟩]) (.block 0 (.loop c57_0))) (.seq (.ops [⟨some 19,none,.mv (.tmp 3)⟩,⟨some 20,none,.call 28 [.tmp 19,.const (.string ⟨⟨[46]⟩⟩)]⟩,⟨some 2,none,.mv (.tmp 20)⟩]) .ret))))
theorem k57 : compF Tryz.prog Tryz.f57 = some (c57, [2]) := by kernel_rfl
theorem n57 : Tryz.f57.ntmps = 21 := by kernel_rfl
def iv (a b c : Int) : List Value := [.int .i64 a, .int .i64 b, .int .i64 c]
def vOk (a b c : Int) : Prop := (0 ≤ a ∧ a ≤ 65535) ∧ (0 ≤ b ∧ b ≤ 65535) ∧ (0 ≤ c ∧ c ≤ 65535)
instance (a b c : Int) : Decidable (vOk a b c) := by unfold vOk; infer_instance
def vtext (a b c : Int) : List UInt8 := dec a.toNat ++ 46 :: (dec b.toNat ++ 46 :: dec c.toNat)
theorem iv_bel {n : Nat} {a b c : Int} : ∀ x ∈ iv a b c, VBelow n x := fun x hx => by
  simp [iv] at hx
  rcases hx with rfl | rfl | rfl <;> exact .int
theorem mc_iv (a b c : Int) : mcells (.agg (iv a b c).toArray) = some (iv a b c) := rfl
theorem acut_iv (a b c : Int) : acut (iv a b c) 0 3 = some (iv a b c) := rfl
theorem refRight_ok (a b c : Int) (h : Heap) : ACalls Tryz.prog 105 [.agg (iv a b c).toArray] h fun v h' => v = .bool (decide (vOk a b c)) ∧ h' = h := by
  refine ACalls.same .bool (acalls_of mix Tryz.func105 k105 n105 (by simp) fun hcl hb => ?_)
  have f0 := cellsOf_new h (iv a b c) .ex 1
  have i0 : aidx (.int .i64 0) 3 = some 0 := rfl
  have i1 : aidx (.int .i64 1) 3 = some 1 := rfl
  have i2 : aidx (.int .i64 2) 3 = some 2 := rfl
  have g0 : (iv a b c)[0]? = some (.int .i64 a) := rfl
  have g1 : (iv a b c)[1]? = some (.int .i64 b) := rfl
  have g2 : (iv a b c)[2]? = some (.int .i64 c) := rfl
  have e0 := (Heap.Ext.refl h).push hcl (.cells (iv a b c) .ex 1)
  by_cases q0 : 0 ≤ a
  · by_cases q1 : a < 65536
    · by_cases q2 : 0 ≤ b
      · by_cases q3 : b < 65536
        · by_cases q4 : 0 ≤ c
          · by_cases q5 : c < 65536
            · have : vOk a b c := ⟨⟨q0, by omega⟩, ⟨q2, by omega⟩, ⟨q4, by omega⟩⟩
              simp [c105, mc_iv, f0, i0, i1, i2, g0, g1, g2, apart, q0, q1, q2, q3, q4, q5, this]
              exact e0
            · have : ¬ vOk a b c := fun q => by unfold vOk at q; omega
              simp [c105, mc_iv, f0, i0, i1, i2, g0, g1, g2, apart, q0, q1, q2, q3, q4, q5, this]
              exact e0
          · have : ¬ vOk a b c := fun q => by unfold vOk at q; omega
            simp [c105, mc_iv, f0, i0, i1, i2, g0, g1, g2, apart, q0, q1, q2, q3, q4, this]
            exact e0
        · have : ¬ vOk a b c := fun q => by unfold vOk at q; omega
          simp [c105, mc_iv, f0, i0, i1, i2, g0, g1, g2, apart, q0, q1, q2, q3, this]
          exact e0
      · have : ¬ vOk a b c := fun q => by unfold vOk at q; omega
        simp [c105, mc_iv, f0, i0, i1, i2, g0, g1, g2, apart, q0, q1, q2, this]
        exact e0
    · have : ¬ vOk a b c := fun q => by unfold vOk at q; omega
      simp [c105, mc_iv, f0, i0, i1, i2, g0, g1, g2, apart, q0, q1, this]
      exact e0
  · have : ¬ vOk a b c := fun q => by unfold vOk at q; omega
    simp [c105, mc_iv, f0, i0, i1, i2, g0, g1, g2, apart, q0, this]
    exact e0
theorem verRight_ok (a b c : Int) (h : Heap) : ACalls Tryz.prog 91 [.agg (iv a b c).toArray] h fun v h' => v = .bool (decide (vOk a b c)) ∧ h' = h := by
  refine ACalls.same .bool (acalls_of mix Tryz.func91 k91 n91 (by simp) fun hcl hb => ?_)
  have f0 := cellsOf_new h (iv a b c) .ex 1
  have e0 := (Heap.Ext.refl h).push hcl (.cells (iv a b c) .ex 1)
  have hc1 : (h.push (.cells (iv a b c) .ex 1)).Closed := closed_push hcl iv_bel
  simp [c91, mc_iv, f0, apart, acut_iv]
  obtain ⟨L, hL⟩ : ∃ L, L = [a, b, c] := ⟨_, rfl⟩
  have hgL : ∀ i (hi : i < L.length), (iv a b c)[i]? = some (.int .i64 L[i]) := by
    subst hL
    intro i hi
    match i, hi with
    | 0, _ => rfl
    | 1, _ => rfl
    | 2, _ => rfl
  have hL3 : L.length = 3 := by rw [hL]; rfl
  have hmL : ∀ x ∈ L, x = a ∨ x = b ∨ x = c := by rw [hL]; simp
  refine awp_loop_of (α := Nat) (fun i => i ≤ 3 ∧ ∀ j (hj : j < L.length), j < i → 0 ≤ L[j] ∧ L[j] ≤ 65535)
    (fun i => [(5, .agg (iv a b c).toArray), (6, .int .i64 i)]) (fun _ => h.push (.cells (iv a b c) .ex 1)) (fun i => 3 - i) 0
    ⟨Nat.zero_le _, fun j _ h => absurd h (by omega)⟩ ⟨Nat.le_succ _, Nat.le_refl _, fun _ _ e => e, hc1⟩ (by
      simp
      exact ⟨.agg fun i hi => by
        have : (iv a b c).toArray.getD i unk ∈ iv a b c := by
          have hi' : i < (iv a b c).length := by simpa using hi
          simp [Array.getD, hi']
        exact iv_bel _ this, .int⟩) ?_
  rintro i ⟨hi, hok⟩
  by_cases hi3 : i < 3
  · have hi' : (i : Int) < 3 := by omega
    have hg := hgL i (by omega)
    have w4 : IntKind.i64.wrap ((i : Int) + 1) = ((i + 1 : Nat) : Int) := w1 i (by omega)
    have hm := hmL L[i] (List.getElem_mem _)
    generalize hx : L[i] = x at *
    by_cases q0 : x < 0
    · have : ¬ vOk a b c := fun q => by
        unfold vOk at q
        rcases hm with e | e | e <;> omega
      simp [c91_0, hi', aidx_of hi3, apart, hg, q0, this]
      exact e0
    · by_cases q1 : 65535 < x
      · have : ¬ vOk a b c := fun q => by
          unfold vOk at q
          rcases hm with e | e | e <;> omega
        simp [c91_0, hi', aidx_of hi3, apart, hg, q0, q1, this]
        exact e0
      · simp [c91_0, hi', aidx_of hi3, apart, hg, q0, q1, w4, -Int.natCast_add]
        refine ⟨i + 1, by omega, ⟨by omega, fun j hj hj2 => ?_⟩, ⟨Nat.le_succ _, Nat.le_refl _, fun _ _ e => e, hc1⟩, .agg fun k hk => ?_, rfl, .int⟩
        · by_cases hji : j = i
          · subst hji; omega
          · exact hok j hj (by omega)
        · have : (iv a b c).toArray.getD k unk ∈ iv a b c := by
            have hk' : k < (iv a b c).length := by simpa using hk
            simp [Array.getD, hk']
          exact iv_bel _ this
  · have hi' : ¬ (i : Int) < 3 := by omega
    have : vOk a b c := by
      have h0 := hok 0 (by omega) (by omega)
      have h1 := hok 1 (by omega) (by omega)
      have h2 := hok 2 (by omega) (by omega)
      subst hL
      exact ⟨h0, h1, h2⟩
    simp [c91_0, hi', this]
    exact e0
def d10 : List UInt8 := [48, 49, 50, 51, 52, 53, 54, 55, 56, 57]
def dgt (k : Nat) : UInt8 := UInt8.ofNat (48 + k)
theorem cut10 (k : Nat) (h : k < 10) : (d10.take (k + 1)).drop k = [dgt k] := by
  have : ∀ j : Fin 10, (d10.take (j.val + 1)).drop j.val = [dgt j.val] := by decide
  exact this ⟨k, h⟩
theorem digN_one (u : Nat) : digN 1 u = [dgt (u % 10)] := rfl
structure DS where
  k : Nat
  u : Nat
theorem digits_ok (N : Nat) (hN : N < 1000000000000000000) (h : Heap) : ACalls Tryz.prog 133 [.int .i64 N] h fun v h' => v = .string (bs (dec N)) ∧ h' = h := by
  refine ACalls.same .string (acalls_of mix Tryz.func133 k133 n133 (by simp) fun hcl hb => ?_)
  have hcd : (⟨⟨[48, 49, 50, 51, 52, 53, 54, 55, 56, 57]⟩⟩ : ByteArray) = bs d10 := rfl
  have hs : (bs d10).size = 10 := rfl
  have q2 : (N : Int).tmod 10 = ((N % 10 : Nat) : Int) := tmodN N 10
  have hlt : N % 10 < 10 := by omega
  have w1' : IntKind.i64.wrap (((N % 10 : Nat) : Int) + 1) = ((N % 10 + 1 : Nat) : Int) := w1 _ (by omega)
  have b1 : abounds 10 10 (some (.int .i64 ((N % 10 : Nat) : Int))) (some (.int .i64 ((N % 10 + 1 : Nat) : Int))) none = some (N % 10, N % 10 + 1, 10) := abounds_lohi (by omega) (by omega)
  simp only [c133, s_seq, s_ops]
  simp [hcd, hs, q2, w1', b1, bs_extract, cut10 _ hlt, -Int.natCast_add, -Int.natCast_emod]
  refine awp_loop_of (α := DS) (fun z => z.u = N / 10 ^ (z.k - 1) ∧ 1 ≤ z.k ∧ z.k ≤ 18 ∧ (z.k = 1 ∨ 0 < z.u))
    (fun z => [(0, .int .i64 z.u), (3, .string (bs d10)), (4, .string (bs (digN z.k N)))]) (fun _ => h) (fun z => z.u) ⟨1, N⟩
    ⟨by simp, Nat.le_refl _, by show 1 ≤ 18; omega, .inl rfl⟩ (Heap.Sub.refl hcl) (by simp; exact ⟨.int, .string, by rw [digN_one], .string⟩) ?_
  rintro ⟨k, u⟩ ⟨hu, hk1, hk18, hku⟩
  dsimp only at hu hk1 hk18 hku ⊢
  by_cases h10 : 10 ≤ u
  · have h10' : (10 : Int) ≤ (u : Int) := by omega
    have huN : u ≤ N := by rw [hu]; exact Nat.div_le_self _ _
    have p1 : (u : Int).tdiv 10 = ((u / 10 : Nat) : Int) := tdivN u 10
    have p2 : IntKind.i64.wrap ((u / 10 : Nat) : Int) = ((u / 10 : Nat) : Int) := i64w _ (by omega)
    have p3 : ((u / 10 : Nat) : Int).tmod 10 = ((u / 10 % 10 : Nat) : Int) := tmodN _ 10
    have hl2 : u / 10 % 10 < 10 := by omega
    have p4 : IntKind.i64.wrap (((u / 10 % 10 : Nat) : Int) + 1) = ((u / 10 % 10 + 1 : Nat) : Int) := w1 _ (by omega)
    have p5 : abounds 10 10 (some (.int .i64 ((u / 10 % 10 : Nat) : Int))) (some (.int .i64 ((u / 10 % 10 + 1 : Nat) : Int))) none = some (u / 10 % 10, u / 10 % 10 + 1, 10) := abounds_lohi (by omega) (by omega)
    have hkk : N / 10 ^ k = u / 10 := by
      obtain ⟨j, rfl⟩ : ∃ j, k = j + 1 := ⟨k - 1, by omega⟩
      rw [hu, Nat.pow_succ, Nat.add_sub_cancel, Nat.div_div_eq_div_mul]
    have hdn : digN (k + 1) N = [dgt (u / 10 % 10)] ++ digN k N := by
      rw [Nat.add_comm, digN_add 1 k N, hkk, digN_one]
    have hk17 : k ≤ 17 := by
      rcases Nat.lt_or_ge 17 k with g | g
      · have : k = 18 := by omega
        subst this
        have : N / 10 ^ 18 = 0 := Nat.div_eq_of_lt hN
        omega
      · exact g
    have s1 : (bs [dgt (u / 10 % 10)]).size + (bs (digN k N)).size ≤ 9223372036854775807 := by rw [bs_size, bs_size, digN_len]; simp; omega
    have hu10 : u / 10 < u := by omega
    have hu0 : 0 < u / 10 := by omega
    generalize hv : u / 10 = v at *
    simp [c133_0, h10', p1, p2, p3, p4, hs, p5, bs_extract, cut10 _ hl2, s1, bs_append, -Int.natCast_add, -Int.natCast_emod, -Int.natCast_ediv]
    exact ⟨⟨k + 1, v⟩, hu10, ⟨by show v = N / 10 ^ (k + 1 - 1); rw [Nat.add_sub_cancel, hkk], by show 1 ≤ k + 1; omega, by show k + 1 ≤ 18; omega, .inr hu0⟩, Heap.Sub.refl hcl, ⟨rfl, .int⟩, .string, ⟨by show bs _ = bs (digN (k + 1) N); rw [hdn]; rfl, .string⟩⟩
  · have h10' : ¬ (10 : Int) ≤ (u : Int) := by omega
    have hnd : ndig N = k := by
      obtain ⟨j, rfl⟩ : ∃ j, k = j + 1 := ⟨k - 1, by omega⟩
      rw [Nat.add_sub_cancel] at hu
      have hp : 0 < 10 ^ j := Nat.pow_pos (by omega)
      refine ndig_eq (by omega) ?_ ?_
      · rcases hku with e | e
        · exact .inr (by omega)
        · left
          rw [hu] at e
          have := (Nat.le_div_iff_mul_le hp).1 e
          omega
      · rw [Nat.pow_succ, Nat.mul_comm]
        exact (Nat.div_lt_iff_lt_mul hp).1 (by omega)
    simp [c133_0, h10']
    refine ⟨?_, Heap.Ext.refl h⟩
    unfold dec
    rw [hnd]
theorem refText_ok (a b c : Int) (hv : vOk a b c) (h : Heap) : ACalls Tryz.prog 106 [.agg (iv a b c).toArray] h fun v h' => v = .string (bs (vtext a b c)) ∧ h' = h := by
  refine ACalls.same .string (acalls_of mix Tryz.func106 k106 n106 (by simp) fun hcl hb => ?_)
  obtain ⟨⟨ha, ha'⟩, ⟨hb, hb'⟩, ⟨hc, hc'⟩⟩ := hv
  obtain ⟨a, rfl⟩ : ∃ m : Nat, a = m := ⟨a.toNat, by omega⟩
  obtain ⟨b, rfl⟩ : ∃ m : Nat, b = m := ⟨b.toNat, by omega⟩
  obtain ⟨c, rfl⟩ : ∃ m : Nat, c = m := ⟨c.toNat, by omega⟩
  have f0 := cellsOf_new h (iv a b c) .ex 1
  have i0 : aidx (.int .i64 0) 3 = some 0 := rfl
  have i1 : aidx (.int .i64 1) 3 = some 1 := rfl
  have i2 : aidx (.int .i64 2) 3 = some 2 := rfl
  have g0 : (iv a b c)[0]? = some (.int .i64 a) := rfl
  have g1 : (iv a b c)[1]? = some (.int .i64 b) := rfl
  have g2 : (iv a b c)[2]? = some (.int .i64 c) := rfl
  have e0 := (Heap.Ext.refl h).push hcl (.cells (iv a b c) .ex 1)
  have l1 := ndig_small (u := a) (k := 5) (by omega) (by omega) (by omega)
  have l2 := ndig_small (u := b) (k := 5) (by omega) (by omega) (by omega)
  have l3 := ndig_small (u := c) (k := 5) (by omega) (by omega) (by omega)
  have dl := fun n => dec_len n
  simp [c106, mc_iv, f0, i0, i1, i2, g0, g1, g2, apart, bs_lit]
  refine (digits_ok a (by omega) _).mono ?_
  rintro _ h9 ⟨rfl, e⟩
  rw [e]; clear e h9
  have z1 : (dec a).length + 1 ≤ 9223372036854775807 := by rw [dl]; omega
  simp [f0, i0, i1, i2, g0, g1, g2, apart, bs_size, bs_append, z1]
  refine (digits_ok b (by omega) _).mono ?_
  rintro _ h9 ⟨rfl, e⟩
  rw [e]; clear e h9
  have z2 : (dec a).length + 1 + (dec b).length ≤ 9223372036854775807 := by rw [dl, dl]; omega
  have z2' : (dec a).length + ((dec b).length + 1) ≤ 9223372036854775807 := by rw [dl, dl]; omega
  have z3 : (dec a).length + 1 + (dec b).length + 1 ≤ 9223372036854775807 := by rw [dl, dl]; omega
  have z3' : (dec a).length + ((dec b).length + 1 + 1) ≤ 9223372036854775807 := by rw [dl, dl]; omega
  have y1 : (dec a).length + ((dec b).length + 1) ≤ 9223372036854775806 := by rw [dl, dl]; omega
  have y2 : (dec a).length + (dec b).length ≤ 9223372036854775805 := by rw [dl, dl]; omega
  have y3 : (dec a).length + ((dec b).length + 1) ≤ 9223372036854775807 := by rw [dl, dl]; omega
  simp [f0, i0, i1, i2, g0, g1, g2, apart, bs_size, bs_append, z1, z2, z2', z3, z3', y1, y2, y3]
  refine (digits_ok c (by omega) _).mono ?_
  rintro _ h9 ⟨rfl, e⟩
  rw [e]; clear e h9
  have z4 : (dec a).length + ((dec b).length + 1 + 1) + (dec c).length ≤ 9223372036854775807 := by rw [dl, dl, dl]; omega
  have z4' : (dec a).length + 1 + (dec b).length + 1 + (dec c).length ≤ 9223372036854775807 := by rw [dl, dl, dl]; omega
  have x1 : (dec a).length + ((dec b).length + 1 + 1 + (dec c).length) ≤ 9223372036854775807 := by rw [dl, dl, dl]; omega
  have x2 : (dec a).length + ((dec b).length + 1) + 1 + (dec c).length ≤ 9223372036854775807 := by rw [dl, dl, dl]; omega
  have x3 : (dec a).length + ((dec b).length + 1 + 1) + (dec c).length ≤ 9223372036854775807 := by rw [dl, dl, dl]; omega
  simp [f0, i0, i1, i2, g0, g1, g2, apart, bs_size, bs_append, z4, z4', x1, x2, x3]
  exact ⟨by unfold vtext; simp, e0⟩
theorem own_slj {h0 H : Heap} {L : List (List UInt8)} {v : Value} (o : Own h0 1 L.length (L.map sv) v H) (hL : L ≠ []) : SlJ H v L := by
  obtain ⟨hn, ⟨rfl, h1, h2, hH⟩ | ⟨nm, md, e, h1, h2, rfl, h3, hmd, hH⟩⟩ := o
  · exact absurd (by simpa using h1) hL
  · refine ⟨nm, 0, L.length, L.map sv, md, e, rfl, ?_, hmd, Nat.le_refl _, by simp, fun i hi => by simp [hi]⟩
    unfold Heap.cellsOf
    rw [hH, with1_m, if_pos rfl]
structure TS where
  i : Nat
  v : Value
  H : Heap
theorem verText_ok (a b c : Int) (h : Heap) : ACalls Tryz.prog 57 [.agg (iv a b c).toArray] h fun v h' => v = .string (bs (if vOk a b c then vtext a b c else [])) ∧ h' = h := by
  refine ACalls.same .string (acalls_of mix Tryz.func57 k57 n57 (by simp) fun hcl hb => ?_)
  have f0 := cellsOf_new h (iv a b c) .ex 1
  have e0 := (Heap.Ext.refl h).push hcl (.cells (iv a b c) .ex 1)
  have hc1 : (h.push (.cells (iv a b c) .ex 1)).Closed := closed_push hcl iv_bel
  have n1 : (h.push (.cells (iv a b c) .ex 1)).n = h.n + 1 := rfl
  simp only [c57, s_seq, s_ops]
  simp [mc_iv, f0, apart, acut_iv, bs_lit]
  generalize h.push (.cells (iv a b c) .ex 1) = H1 at *
  refine (verRight_ok a b c H1).mono ?_
  rintro _ h9 ⟨rfl, e⟩
  rw [e]; clear e h9
  by_cases hv : vOk a b c
  · simp [hv, aun, f0, apart, acut_iv]
    obtain ⟨⟨ha, ha'⟩, ⟨hb', hb2⟩, ⟨hc, hc'⟩⟩ := hv
    obtain ⟨a, rfl⟩ : ∃ m : Nat, a = m := ⟨a.toNat, by omega⟩
    obtain ⟨b, rfl⟩ : ∃ m : Nat, b = m := ⟨b.toNat, by omega⟩
    obtain ⟨c, rfl⟩ : ∃ m : Nat, c = m := ⟨c.toNat, by omega⟩
    obtain ⟨L, hL⟩ : ∃ L, L = [a, b, c] := ⟨_, rfl⟩
    have hgL : ∀ i (hi : i < L.length), (iv a b c)[i]? = some (.int .i64 (L[i] : Nat)) := by
      subst hL
      intro i hi
      match i, hi with
      | 0, _ => rfl
      | 1, _ => rfl
      | 2, _ => rfl
    have hL3 : L.length = 3 := by rw [hL]; rfl
    have hmL : ∀ x ∈ L, x ≤ 65535 := by rw [hL]; simp; omega
    have hivb : VBelow H1.n (.agg (iv a b c).toArray) := .agg fun k hk => by
      have : (iv a b c).toArray.getD k unk ∈ iv (a : Int) b c := by
        have hk' : k < (iv (a : Int) b c).length := by simpa using hk
        simp [Array.getD, hk']
      exact iv_bel _ this
    refine awp_loop_of (α := TS) (fun z => z.i ≤ 3 ∧ Own H1 1 z.i (((L.map dec).take z.i).map sv) z.v z.H)
      (fun z => [(3, z.v), (9, .agg (iv a b c).toArray), (10, .int .i64 z.i)]) (fun z => z.H) (fun z => 3 - z.i) ⟨0, .slice none 0 0, H1⟩
      ⟨Nat.zero_le _, Own.start H1 1⟩ ⟨by show h.n ≤ H1.n; omega, Nat.le_refl _, fun _ _ e => e, hc1⟩ (by simp; exact ⟨.snil, hivb, .int⟩) ?_
    rintro ⟨i, v, H⟩ ⟨hi, hO⟩
    dsimp only at hi hO ⊢
    have hsvb : ∀ x ∈ ((L.map dec).take i).map sv, VBelow H1.n x := fun x hx => by obtain ⟨y, _, rfl⟩ := List.mem_map.1 hx; exact .string
    have hcH := hO.closed hc1 hsvb
    have hsub := hO.1
    by_cases hi3 : i < 3
    · have hi' : (i : Int) < 3 := by omega
      have hg := hgL i (by omega)
      have hx := hmL L[i] (List.getElem_mem _)
      have w4 : IntKind.i64.wrap ((i : Int) + 1) = ((i + 1 : Nat) : Int) := w1 i (by omega)
      have htk : (L.map dec).take (i + 1) = (L.map dec).take i ++ [dec L[i]] := by
        rw [List.take_succ_eq_append_getElem (by rw [List.length_map]; omega)]
        simp
      have hit : itoaB ((L[i] : Nat) : Int) = dec L[i] := by unfold itoaB; rw [if_neg (by omega)]; rfl
      generalize L[i] = x at *
      simp [c57_0, hi', aidx_of hi3, apart, hg]
      refine (itoa_ok (x : Int) (by omega) (by omega) H).mono ?_
      rintro _ h9 ⟨rfl, e⟩
      rw [e]; clear e h9
      rw [hit]
      obtain ⟨a', cc, rfl, v2, H2, H3, happ, hown3, hn3, hin3⟩ := hO.app (H' := H.push (.cells [sv (dec x)] .ex 1)) (t := 9) (bytes := 16) (k := 1) (new := [sv (dec x)]) hc1
        (by show H.n ≤ H.n + 1; omega) (fun b hb => by rw [push_m, if_neg (by omega)]) (by omega) rfl (by omega)
      have hn1 := hown3.1
      have fil : afill [.string (bs [])] [(0, 1, .string (bs (dec x)))] = some [sv (dec x)] := rfl
      have hfst : afirst (H.push (.cells [sv (dec x)] .ex 1)) 1 1 (.slice (some ⟨H.n, 0, none⟩) 1 1) = some [sv (dec x)] := by simp [afirst, cellsOf_new, acut]
      have fil2 : afill [.string (bs [])] [(0, 1, sv (dec x))] = some [sv (dec x)] := rfl
      have hsvd : Value.string (bs (dec x)) = sv (dec x) := rfl
      simp [bs_lit, hsvd, fil, fil2, alen, hfst, happ, w4, -Int.natCast_add]
      refine ⟨⟨i + 1, v2, H3⟩, by show 3 - (i + 1) < 3 - i; omega, ⟨by show i + 1 ≤ 3; omega, ?_⟩, ⟨by show h.n ≤ H3.n; omega, by show H3.n ≤ H2.n; omega, hin3, hown3.closed hc1 ?_⟩, ⟨rfl, hown3.below⟩, hivb.mono hown3.1, rfl, .int⟩
      · have e9 : List.take (i + 1) (List.map (sv ∘ dec) L) = ((L.map dec).take i).map sv ++ [sv (dec x)] := by
          rw [← List.map_map, ← List.map_take, htk, List.map_append]
          rfl
        show Own H1 1 (i + 1) (List.take (i + 1) (List.map (sv ∘ dec) L)) v2 H3
        rw [e9]
        exact hown3
      · intro y hy
        rcases List.mem_append.1 hy with hy | hy
        · exact hsvb y hy
        · rw [List.mem_singleton.1 hy]; exact .string
    · have hie : i = 3 := by omega
      subst hie
      have htk : (L.map dec).take 3 = L.map dec := List.take_of_length_le (by rw [List.length_map]; omega)
      rw [htk] at hO
      have hlm : (L.map dec).length = 3 := by rw [List.length_map, hL3]
      have hS : SlJ H v (L.map dec) := own_slj (by rw [hlm]; exact hO) (by rw [hL]; simp)
      have hsum : sumL (L.map dec) ≤ 15 := by
        subst hL
        have l1 := ndig_small (u := a) (k := 5) (by omega) (by omega) (by omega)
        have l2 := ndig_small (u := b) (k := 5) (by omega) (by omega) (by omega)
        have l3 := ndig_small (u := c) (k := 5) (by omega) (by omega) (by omega)
        simp [sumL, dec_len]
        omega
      simp [c57_0]
      refine (join_ok v (L.map dec) [46] H hS (by rw [hL]; simp) (by simp) (by rw [hlm]; simp; omega)).mono ?_
      rintro _ h9 ⟨rfl, e⟩
      rw [e]; clear e h9
      have hjv : joinB [46] (L.map dec) = vtext a b c := by rw [hL]; simp [joinB, vtext]
      simp [hjv]
      exact e0.trans ⟨hO.1, (hO.sub hc1).sub⟩
  · simp [hv, aun]
    exact e0

def c98_0 : AC := .seq (.ops [⟨some 17,none,.bin .lss (.tmp 16) (.tmp 15)⟩]) (.seq (.cond (.tmp 17) .skip (.exit 0)) (.seq (.block 1 (.seq (.ops [⟨some 18,none,.mv (.tmp 16)⟩,⟨some 19,none,.iAddrS 1 (.tmp 14) (.tmp 16)⟩,⟨some 20,none,.load none (.tmp 19)⟩,⟨some 6,none,.mv (.tmp 18)⟩,⟨some 7,none,.mv (.tmp 20)⟩]) (.ops [⟨some 22,none,.mv (.tmp 6)⟩,⟨some 23,none,.mv (.tmp 7)⟩,⟨some 24,none,.call 50 [.tmp 23]⟩,⟨some 21,none,.mv (.tmp 24)⟩,⟨some 25,none,.extr (.tmp 21) 0⟩,⟨some 26,none,.extr (.tmp 21) 1⟩,⟨some 27,none,.iAddrA 3 1 (.tmp 5) (.tmp 22)⟩,⟨none,none,.store 1 (.tmp 27) (.tmp 25)⟩]))) (.ops [⟨some 28,none,.bin .add (.tmp 16) (.const (.int .i64 1))⟩,⟨some 16,none,.mv (.tmp 28)⟩])))
def c98 : AC := .seq (.ops [⟨some 2,none,.alloc [.int .i64 0,.int .i64 0,.int .i64 0]⟩,⟨some 3,none,.mv (.const (.int .i64 0))⟩]) (.seq (.ops [⟨some 8,none,.mv (.tmp 0)⟩,⟨some 9,none,.call 48 [.tmp 8,.const (.string ⟨⟨[46]⟩⟩)]⟩,⟨some 4,none,.mv (.tmp 9)⟩]) (.seq (.ops [⟨some 5,none,.alloc [.int .i64 0,.int .i64 0,.int .i64 0]⟩]) (.seq (.seq (.ops [⟨some 10,none,.mv (.tmp 4)⟩,⟨some 11,none,.lenS false (.tmp 10)⟩,⟨some 12,none,.bin .neq (.tmp 11) (.const (.int .i64 3))⟩]) (.cond (.tmp 12) (.seq (.ops [⟨some 13,none,.build [.int .i64 0,.int .i64 0,.int .i64 0] []⟩,⟨none,none,.store 3 (.tmp 2) (.tmp 13)⟩,⟨some 3,none,.mv (.const (.int .i64 6))⟩]) .ret) .skip)) (.seq (.seq (.ops [⟨some 14,none,.mv (.tmp 4)⟩,⟨some 15,none,.lenS false (.tmp 14)⟩,⟨some 16,none,.mv (.const (.int .i64 0))⟩]) (.block 0 (.loop c98_0))) (.seq (.seq (.ops [⟨some 29,none,.load (some 3) (.tmp 5)⟩,⟨some 30,none,.call 57 [.tmp 29]⟩,⟨some 31,none,.mv (.tmp 0)⟩,⟨some 32,none,.bin .neq (.tmp 30) (.tmp 31)⟩]) (.cond (.tmp 32) (.seq (.ops [⟨some 33,none,.build [.int .i64 0,.int .i64 0,.int .i64 0] []⟩,⟨none,none,.store 3 (.tmp 2) (.tmp 33)⟩,⟨some 3,none,.mv (.const (.int .i64 6))⟩]) .ret) .skip)) (.seq (.ops [⟨some 34,none,.load (some 3) (.tmp 5)⟩,⟨none,none,.store 3 (.tmp 2) (.tmp 34)⟩,⟨some 3,none,.mv (.const (.int .i64 0))⟩]) .ret))))))
theorem k98 : compR Tryz.prog Tryz.f98 = some (c98, [.c 2 (some 3), .t 3]) := by kernel_rfl
theorem n98 : Tryz.f98.ntmps = 35 := by kernel_rfl
def c71_0 : AC := .seq (.seq (.ops [⟨some 9,none,.mv (.tmp 7)⟩,⟨some 10,none,.mv (.tmp 0)⟩,⟨some 11,none,.lenS true (.tmp 10)⟩,⟨some 12,none,.bin .lss (.tmp 9) (.tmp 11)⟩]) (.cond (.tmp 12) .skip (.exit 0))) (.seq (.block 1 (.seq (.seq (.ops [⟨some 15,none,.mv (.tmp 0)⟩,⟨some 16,none,.mv (.tmp 7)⟩,⟨some 17,none,.iStr (.tmp 15) (.tmp 16)⟩,⟨some 18,none,.bin .eql (.tmp 17) (.const (.int .u8 46))⟩]) (.cond (.tmp 18) (.seq (.ops [⟨some 19,none,.mv (.tmp 5)⟩,⟨some 20,none,.bin .add (.tmp 19) (.const (.int .i64 1))⟩,⟨some 5,none,.mv (.tmp 20)⟩]) (.seq (.ops [⟨some 6,none,.mv (.const (.int .i64 0))⟩]) (.seq (.seq (.ops [⟨some 21,none,.mv (.tmp 5)⟩,⟨some 22,none,.bin .eql (.tmp 21) (.const (.int .i64 3))⟩]) (.cond (.tmp 22) (.seq (.ops [⟨some 23,none,.build [.int .i64 0,.int .i64 0,.int .i64 0] []⟩,⟨none,none,.store 3 (.tmp 2) (.tmp 23)⟩,⟨some 3,none,.mv (.const (.bool false))⟩]) .ret) .skip)) (.exit 1)))) .skip)) (.seq (.ops [⟨some 24,none,.mv (.tmp 6)⟩,⟨some 25,none,.bin .add (.tmp 24) (.const (.int .i64 1))⟩,⟨some 6,none,.mv (.tmp 25)⟩]) (.seq (.seq (.ops [⟨some 26,none,.mv (.tmp 0)⟩,⟨some 27,none,.mv (.tmp 7)⟩,⟨some 28,none,.iStr (.tmp 26) (.tmp 27)⟩,⟨some 29,none,.bin .lss (.tmp 28) (.const (.int .u8 48))⟩,⟨some 30,none,.mv (.tmp 29)⟩,⟨some 31,some (30,false),.mv (.tmp 0)⟩,⟨some 32,some (30,false),.mv (.tmp 7)⟩,⟨some 33,some (30,false),.iStr (.tmp 31) (.tmp 32)⟩,⟨some 34,some (30,false),.bin .gtr (.tmp 33) (.const (.int .u8 57))⟩,⟨some 35,none,.pick (.tmp 30) (.const (.bool true)) (.tmp 34)⟩,⟨some 36,none,.mv (.tmp 35)⟩,⟨some 37,some (36,false),.mv (.tmp 6)⟩,⟨some 38,some (36,false),.bin .gtr (.tmp 37) (.const (.int .i64 5))⟩,⟨some 39,none,.pick (.tmp 36) (.const (.bool true)) (.tmp 38)⟩]) (.cond (.tmp 39) (.seq (.ops [⟨some 40,none,.build [.int .i64 0,.int .i64 0,.int .i64 0] []⟩,⟨none,none,.store 3 (.tmp 2) (.tmp 40)⟩,⟨some 3,none,.mv (.const (.bool false))⟩]) .ret) .skip)) (.draw [([⟨some 41,none,.mv (.tmp 5)⟩,⟨some 42,none,.mv (.tmp 5)⟩,⟨some 43,none,.iAddrA 3 1 (.tmp 4) (.tmp 42)⟩,⟨some 44,none,.load none (.tmp 43)⟩,⟨some 45,none,.bin .mul (.const (.int .i64 10)) (.tmp 44)⟩,⟨some 46,none,.mv (.tmp 0)⟩,⟨some 47,none,.mv (.tmp 7)⟩,⟨some 48,none,.iStr (.tmp 46) (.tmp 47)⟩,⟨some 49,none,.toInt .i64 (.tmp 48)⟩,⟨some 50,none,.bin .add (.tmp 45) (.tmp 49)⟩,⟨some 51,none,.bin .sub (.tmp 50) (.const (.int .i64 48))⟩,⟨some 52,none,.iAddrA 3 1 (.tmp 4) (.tmp 41)⟩],[⟨none,none,.store 1 (.tmp 52) (.tmp 51)⟩],[]),([],[],[])]))))) (.ops [⟨some 13,none,.mv (.tmp 7)⟩,⟨some 14,none,.bin .add (.tmp 13) (.const (.int .i64 1))⟩,⟨some 7,none,.mv (.tmp 14)⟩]))
def c71 : AC := .seq (.ops [⟨some 2,none,.alloc [.int .i64 0,.int .i64 0,.int .i64 0]⟩,⟨some 3,none,.mv (.const (.bool false))⟩]) (.seq (.ops [⟨some 8,none,.build [.int .i64 0,.int .i64 0,.int .i64 0] []⟩,⟨some 4,none,.alloc [.int .i64 0,.int .i64 0,.int .i64 0]⟩,⟨none,none,.store 3 (.tmp 4) (.tmp 8)⟩]) (.seq (.ops [⟨some 5,none,.mv (.const (.int .i64 0))⟩,⟨some 6,none,.mv (.const (.int .i64 0))⟩]) (.seq (.seq (.ops [⟨some 7,none,.mv (.const (.int .i64 0))⟩]) (.block 0 (.loop c71_0))) (.seq (.seq (.ops [⟨some 53,none,.mv (.tmp 5)⟩,⟨some 54,none,.bin .neq (.tmp 53) (.const (.int .i64 2))⟩,⟨some 55,none,.mv (.tmp 54)⟩,⟨some 56,some (55,false),.load (some 3) (.tmp 4)⟩,⟨some 57,some (55,false),.call 105 [.tmp 56]⟩,⟨some 58,some (55,false),.un .not (.tmp 57)⟩,⟨some 59,none,.pick (.tmp 55) (.const (.bool true)) (.tmp 58)⟩,⟨some 60,none,.mv (.tmp 59)⟩,⟨some 61,some (60,false),.load (some 3) (.tmp 4)⟩,⟨some 62,some (60,false),.call 106 [.tmp 61]⟩,⟨some 63,some (60,false),.mv (.tmp 0)⟩,⟨some 64,some (60,false),.bin .neq (.tmp 62) (.tmp 63)⟩,⟨some 65,none,.pick (.tmp 60) (.const (.bool true)) (.tmp 64)⟩]) (.cond (.tmp 65) (.seq (.ops [⟨some 66,none,.build [.int .i64 0,.int .i64 0,.int .i64 0] []⟩,⟨none,none,.store 3 (.tmp 2) (.tmp 66)⟩,⟨some 3,none,.mv (.const (.bool false))⟩]) .ret) .skip)) (.seq (.ops [⟨some 67,none,.load (some 3) (.tmp 4)⟩,⟨none,none,.store 3 (.tmp 2) (.tmp 67)⟩,⟨some 3,none,.mv (.const (.bool true))⟩]) .ret)))))
theorem k71 : compR Tryz.prog Tryz.f71 = some (c71, [.c 2 (some 3), .t 3]) := by kernel_rfl
theorem n71 : Tryz.f71.ntmps = 68 := by kernel_rfl
theorem dec_no46 (u : Nat) : (46 : UInt8) ∉ dec u := fun q => by
  have := dec_dig u 46 q
  unfold isDig at this
  have h : (46 : UInt8).toNat = 46 := rfl
  omega
theorem vtext_split (a b c : Int) : splitB 46 (vtext a b c) = [dec a.toNat, dec b.toNat, dec c.toNat] := by
  unfold vtext
  rw [split_at (dec_no46 _), split_at (dec_no46 _), split_none (dec_no46 _)]
theorem dec_inj {a b : Nat} (ha : a < 2 ^ 64) (hb : b < 2 ^ 64) (h : dec a = dec b) : a = b := by
  rw [← dec_val a ha, ← dec_val b hb, h]
theorem vtext_inj {a b c a' b' c' : Int} (h : vOk a b c) (h' : vOk a' b' c') (e : vtext a b c = vtext a' b' c') : a = a' ∧ b = b' ∧ c = c' := by
  have := congrArg (splitB 46) e
  rw [vtext_split, vtext_split] at this
  simp only [List.cons.injEq, and_true] at this
  unfold vOk at h h'
  have h1 := dec_inj (by omega) (by omega) this.1
  have h2 := dec_inj (by omega) (by omega) this.2.1
  have h3 := dec_inj (by omega) (by omega) this.2.2
  omega
def RV3 (s : List UInt8) (v : Value) (good bad : Value) : Prop :=
  (∀ a b c, vOk a b c → s = vtext a b c → v = .tuple #[.agg (iv a b c).toArray, good]) ∧ ((∀ a b c, vOk a b c → s ≠ vtext a b c) → v = .tuple #[.agg (iv 0 0 0).toArray, bad])
theorem itoaB_dec (n : Int) (h : 0 ≤ n) : itoaB n = dec n.toNat := by unfold itoaB; rw [if_neg (by omega)]
theorem consH_le (x : UInt8) (L : List (List UInt8)) (n : Nat) (h : ∀ p ∈ L, p.length ≤ n) : ∀ p ∈ consH x L, p.length ≤ n + 1 := by
  cases L with
  | nil => intro p hp; simp [consH] at hp; subst hp; simp
  | cons a b =>
    intro p hp
    simp only [consH, List.mem_cons] at hp
    rcases hp with rfl | hp
    · have := h a (by simp); simp; exact this
    · have := h p (by simp [hp]); omega
theorem split_le (c : UInt8) : ∀ (l : List UInt8), ∀ p ∈ splitB c l, p.length ≤ l.length
  | [], p, h => by simp [splitB] at h; subst h; simp
  | x :: r, p, h => by
    have ih := split_le c r
    unfold splitB at h
    split at h
    · rcases List.mem_cons.1 h with rfl | h
      · simp
      · have := ih p h; simp; omega
    · have := consH_le x _ _ ih p h
      simpa using this
def RI (p : List UInt8) (x : Int) : Prop := ∀ m : Int, -100000000000000000 < m → m < 100000000000000000 → p = itoaB m → x = m
structure PS where
  i : Nat
  x : Int
  y : Int
  z : Int
theorem iv_put (x y z w : Int) : aput (iv x y z) 0 [.int .i64 w] = iv w y z ∧ aput (iv x y z) 1 [.int .i64 w] = iv x w z ∧ aput (iv x y z) 2 [.int .i64 w] = iv x y w := ⟨rfl, rfl, rfl⟩
theorem verParse_ok (s : List UInt8) (hs : s.length ≤ 1000000) (h : Heap) : ACalls Tryz.prog 98 [.string (bs s)] h fun v h' => RV3 s v (.int .i64 0) (.int .i64 6) ∧ h' = h := by
  have bad : ∀ v, v = Value.tuple #[.agg (iv 0 0 0).toArray, .int .i64 6] → (∀ a b c, vOk a b c → s ≠ vtext a b c) → RV3 s v (.int .i64 0) (.int .i64 6) := fun v hv hn => ⟨fun a b c h1 h2 => absurd h2 (hn a b c h1), fun _ => hv⟩
  have hiv : ∀ n x y z, VBelow n (.agg (iv x y z).toArray) := fun n x y z => .agg fun k hk => by
    have : (iv x y z).toArray.getD k unk ∈ iv x y z := by
      have hk' : k < (iv x y z).length := by simpa using hk
      simp [Array.getD, hk']
    exact iv_bel _ this
  refine ACalls.same' (R := fun v => RV3 s v (.int .i64 0) (.int .i64 6)) (fun v hv => ?_) (acalls_ofR mix Tryz.func98 k98 n98 (by simp) fun hcl hb => ?_)
  · by_cases hx : ∃ a b c, vOk a b c ∧ s = vtext a b c
    · obtain ⟨a, b, c, h1, h2⟩ := hx
      rw [hv.1 a b c h1 h2]
      exact vb_tup2 (hiv _ _ _ _) .int
    · rw [hv.2 fun a b c h1 h2 => hx ⟨a, b, c, h1, h2⟩]
      exact vb_tup2 (hiv _ _ _ _) .int
  have z3 : ([.int .i64 0, .int .i64 0, .int .i64 0] : List Value) = iv 0 0 0 := rfl
  have z3' : afill [.int .i64 0, .int .i64 0, .int .i64 0] [] = some (iv 0 0 0) := rfl
  have hcz := closed_push (o := .cells (iv 0 0 0) .ex 1) hcl iv_bel
  have hf0 := cellsOf_new h (iv 0 0 0) .ex 1
  have e0 := (Heap.Ext.refl h).push hcl (.cells (iv 0 0 0) .ex 1)
  have n0 : (h.push (.cells (iv 0 0 0) .ex 1)).n = h.n + 1 := rfl
  simp only [c98, s_seq, s_ops]
  simp [z3, z3', bs_lit]
  generalize h.push (.cells (iv 0 0 0) .ex 1) = H0 at *
  refine (splitS_ok s 46 H0 hs).mono ?_
  rintro _ h9 ⟨rfl, e⟩
  rw [e]; clear e h9
  have hsl := split_len 46 s
  generalize hN : s.count 46 + 1 = N at *
  have hcl1 : (H0.push (.cells ((splitB 46 s).map sv) .ex 1)).Closed := closed_push hcz fun x hx => by obtain ⟨y, _, rfl⟩ := List.mem_map.1 hx; exact .string
  have hcl2 : ∀ x y z, ((H0.push (.cells ((splitB 46 s).map sv) .ex 1)).push (.cells (iv x y z) .ex 1)).Closed := fun x y z => closed_push hcl1 iv_bel
  have hH0 : ∀ x y z, ((H0.push (.cells ((splitB 46 s).map sv) .ex 1)).push (.cells (iv x y z) .ex 1)).cellsOf h.n = some (iv 0 0 0, .ex, 1) := fun x y z => by
    rw [cellsOf_ne (by show ¬ h.n = H0.n + 1; omega), cellsOf_ne (by omega)]; exact hf0
  have hH1 : ∀ x y z, ((H0.push (.cells ((splitB 46 s).map sv) .ex 1)).push (.cells (iv x y z) .ex 1)).cellsOf H0.n = some ((splitB 46 s).map sv, .ex, 1) := fun x y z => by
    rw [cellsOf_ne (by show ¬ H0.n = H0.n + 1; omega)]; exact cellsOf_new _ _ _ _
  have hH2 : ∀ x y z, ((H0.push (.cells ((splitB 46 s).map sv) .ex 1)).push (.cells (iv x y z) .ex 1)).cellsOf (H0.n + 1) = some (iv x y z, .ex, 1) := fun x y z => cellsOf_new (H0.push (.cells ((splitB 46 s).map sv) .ex 1)) _ _ _
  have hS2 : ∀ x y z o, ((H0.push (.cells ((splitB 46 s).map sv) .ex 1)).push (.cells (iv x y z) .ex 1)).set (H0.n + 1) o = (H0.push (.cells ((splitB 46 s).map sv) .ex 1)).push o := fun x y z o => set_push (H0.push (.cells ((splitB 46 s).map sv) .ex 1)) _ _
  have e2 : ∀ x y z, h.Ext ((H0.push (.cells ((splitB 46 s).map sv) .ex 1)).push (.cells (iv x y z) .ex 1)) := fun x y z => (e0.push hcl _).push hcl _
  have e3 : ∀ x y z o, h.Ext (((H0.push (.cells ((splitB 46 s).map sv) .ex 1)).push (.cells (iv x y z) .ex 1)).set h.n o) := fun x y z o => ⟨by show h.n ≤ H0.n + 1 + 1; omega, fun b ob eb => by
    have := (hcl b ob eb).1
    rw [set_m, if_neg (by omega)]; exact (e2 x y z).m b ob eb⟩
  have hp0 : ∀ x y z, aput (iv 0 0 0) 0 (iv x y z) = iv x y z := fun x y z => rfl
  have hl3 : ∀ x y z, (iv x y z).length = 3 := fun x y z => rfl
  have za : ∀ x y z, afill (iv x y z) [] = some (iv x y z) := fun x y z => rfl
  by_cases hN3 : N = 3
  · subst hN3
    obtain ⟨p0, p1, p2, hsp⟩ : ∃ p0 p1 p2, splitB 46 s = [p0, p1, p2] := by
      match hh : splitB 46 s, hsl with
      | [a, b, c], _ => exact ⟨a, b, c, rfl⟩
    have hpl : ∀ p ∈ splitB 46 s, p.length ≤ s.length := split_le 46 s
    have hq0 := hpl p0 (by rw [hsp]; simp)
    have hq1 := hpl p1 (by rw [hsp]; simp)
    have hq2 := hpl p2 (by rw [hsp]; simp)
    have hs0 : s ≠ [] := fun q => by rw [q] at hsp; simp [splitB] at hsp
    simp
    refine awp_loop_of (α := PS) (fun u => u.i ≤ 3 ∧ (0 < u.i → RI p0 u.x) ∧ (1 < u.i → RI p1 u.y) ∧ (2 < u.i → RI p2 u.z))
      (fun u => [(0, .string (bs s)), (2, .pointer (some ⟨h.n, 0, none⟩)), (5, .pointer (some ⟨H0.n + 1, 0, none⟩)), (14, .slice (some ⟨H0.n, 0, none⟩) 3 3), (15, .int .i64 3), (16, .int .i64 u.i)])
      (fun u => (H0.push (.cells ((splitB 46 s).map sv) .ex 1)).push (.cells (iv u.x u.y u.z) .ex 1)) (fun u => 3 - u.i) ⟨0, 0, 0, 0⟩
      ⟨Nat.zero_le _, fun h => absurd h (by show ¬ 0 < 0; omega), fun h => absurd h (by show ¬ 1 < 0; omega), fun h => absurd h (by show ¬ 2 < 0; omega)⟩ ⟨by show h.n ≤ H0.n + 1 + 1; omega, Nat.le_refl _, fun _ _ e => e, hcl2 _ _ _⟩
      (by simp; exact ⟨.string, .ptr (by show h.n < H0.n + 1 + 1; omega), .ptr (by show H0.n + 1 < H0.n + 1 + 1; omega), vb_slice (by show H0.n < H0.n + 1 + 1; omega), .int, .int⟩) ?_
    rintro ⟨i, x, y, z⟩ ⟨hi, hr0, hr1, hr2⟩
    dsimp only at hi hr0 hr1 hr2 ⊢
    by_cases hi3 : i < 3
    · have hI : i = 0 ∨ i = 1 ∨ i = 2 := by omega
      rcases hI with rfl | rfl | rfl
      · have g1 : ((splitB 46 s).map sv)[0]? = some (.string (bs p0)) := by rw [hsp]; rfl
        have i1 : aidx (.int .i64 0) 3 = some 0 := rfl
        simp [c98_0, i1, hH1, apart, g1]
        refine (atoi_ok p0 (by omega) _).mono ?_
        rintro _ h9 ⟨⟨⟨w, e, rfl, _⟩, hrd⟩, e'⟩
        rw [e']; clear e' h9
        have hput := (iv_put x y z w)
        simp [i1, hH2, mcells, hput.1, hput.2.1, hput.2.2, hl3, hS2]
        exact ⟨⟨1, w, y, z⟩, by show 3 - 1 < 3 - 0; omega, ⟨by show 1 ≤ 3; omega, fun _ m m1 m2 hm => by have := hrd m m1 m2 hm; simp at this; exact this.1, fun h => absurd h (by show ¬ 1 < 1; omega), fun h => absurd h (by show ¬ 2 < 1; omega)⟩, ⟨by show h.n ≤ H0.n + 1 + 1; omega, Nat.le_refl _, fun _ _ e => e, hcl2 _ _ _⟩, .string, .ptr (by show h.n < H0.n + 1 + 1; omega), .ptr (by show H0.n + 1 < H0.n + 1 + 1; omega), vb_slice (by show H0.n < H0.n + 1 + 1; omega), .int, ⟨rfl, .int⟩⟩
      · have g1 : ((splitB 46 s).map sv)[1]? = some (.string (bs p1)) := by rw [hsp]; rfl
        have i1 : aidx (.int .i64 1) 3 = some 1 := rfl
        simp [c98_0, i1, hH1, apart, g1]
        refine (atoi_ok p1 (by omega) _).mono ?_
        rintro _ h9 ⟨⟨⟨w, e, rfl, _⟩, hrd⟩, e'⟩
        rw [e']; clear e' h9
        have hput := (iv_put x y z w)
        simp [i1, hH2, mcells, hput.1, hput.2.1, hput.2.2, hl3, hS2]
        exact ⟨⟨2, x, w, z⟩, by show 3 - 2 < 3 - 1; omega, ⟨by show 2 ≤ 3; omega, fun _ => hr0 (by omega), fun _ m m1 m2 hm => by have := hrd m m1 m2 hm; simp at this; exact this.1, fun h => absurd h (by show ¬ 2 < 2; omega)⟩, ⟨by show h.n ≤ H0.n + 1 + 1; omega, Nat.le_refl _, fun _ _ e => e, hcl2 _ _ _⟩, .string, .ptr (by show h.n < H0.n + 1 + 1; omega), .ptr (by show H0.n + 1 < H0.n + 1 + 1; omega), vb_slice (by show H0.n < H0.n + 1 + 1; omega), .int, ⟨rfl, .int⟩⟩
      · have g1 : ((splitB 46 s).map sv)[2]? = some (.string (bs p2)) := by rw [hsp]; rfl
        have i1 : aidx (.int .i64 2) 3 = some 2 := rfl
        simp [c98_0, i1, hH1, apart, g1]
        refine (atoi_ok p2 (by omega) _).mono ?_
        rintro _ h9 ⟨⟨⟨w, e, rfl, _⟩, hrd⟩, e'⟩
        rw [e']; clear e' h9
        have hput := (iv_put x y z w)
        simp [i1, hH2, mcells, hput.1, hput.2.1, hput.2.2, hl3, hS2]
        exact ⟨⟨3, x, y, w⟩, by show 3 - 3 = 0; omega, ⟨by show 3 ≤ 3; omega, fun _ => hr0 (by omega), fun _ => hr1 (by omega), fun _ m m1 m2 hm => by have := hrd m m1 m2 hm; simp at this; exact this.1⟩, ⟨by show h.n ≤ H0.n + 1 + 1; omega, Nat.le_refl _, fun _ _ e => e, hcl2 _ _ _⟩, .string, .ptr (by show h.n < H0.n + 1 + 1; omega), .ptr (by show H0.n + 1 < H0.n + 1 + 1; omega), vb_slice (by show H0.n < H0.n + 1 + 1; omega), .int, ⟨rfl, .int⟩⟩
    · have hie : i = 3 := by omega
      subst hie
      have r0 := hr0 (by omega)
      have r1 := hr1 (by omega)
      have r2 := hr2 (by omega)
      simp [c98_0, hH2, apart, acut_iv]
      refine (verText_ok x y z _).mono ?_
      rintro _ h9 ⟨rfl, e⟩
      rw [e]; clear e h9
      by_cases heq : (if vOk x y z then vtext x y z else []) = s
      · have hok : vOk x y z := by
          by_cases q : vOk x y z
          · exact q
          · rw [if_neg q] at heq; exact absurd heq.symm hs0
        rw [if_pos hok] at heq ⊢
        have hg : RV3 s (.tuple #[.agg (iv x y z).toArray, .int .i64 0]) (.int .i64 0) (.int .i64 6) := ⟨fun a b c h1 h2 => by
          obtain ⟨rfl, rfl, rfl⟩ := vtext_inj hok h1 (heq.trans h2)
          rfl, fun hn => absurd heq.symm (hn x y z hok)⟩
        simp [heq, hH2, apart, acut_iv, hH0, mc_iv, hp0, hl3, cellsOf_set]
        exact ⟨hg, e3 _ _ _ _⟩
      · have hne : ¬ bs (if vOk x y z then vtext x y z else []) = bs s := fun q => heq (bs_inj.1 q)
        have nog : ∀ a b c, vOk a b c → s ≠ vtext a b c := fun a b c h1 h2 => by
          have hv := vtext_split a b c
          rw [← h2, hsp] at hv
          simp only [List.cons.injEq, and_true] at hv
          have h1' := h1
          unfold vOk at h1'
          have ea : x = a := r0 a (by omega) (by omega) (by rw [itoaB_dec a (by omega)]; exact hv.1)
          have eb : y = b := r1 b (by omega) (by omega) (by rw [itoaB_dec b (by omega)]; exact hv.2.1)
          have ec : z = c := r2 c (by omega) (by omega) (by rw [itoaB_dec c (by omega)]; exact hv.2.2)
          subst ea eb ec
          rw [if_pos h1] at heq
          exact heq h2.symm
        simp [hne, za, hH0, mc_iv, hp0, hl3, apart, cellsOf_set, acut_iv]
        exact ⟨bad _ rfl nog, e3 _ _ _ _⟩
  · have hN3' : ¬ (N : Int) = 3 := by omega
    have nog : ∀ a b c, vOk a b c → s ≠ vtext a b c := fun a b c h1 h2 => by
      have := vtext_split a b c
      rw [← h2] at this
      rw [this] at hsl
      simp at hsl
      omega
    simp [hN3, hN3', z3, za, hH0, mc_iv, hp0, hl3, apart, cellsOf_set, acut_iv]
    exact ⟨bad _ rfl nog, e3 _ _ _ _⟩

structure RS where
  t : Nat
  d : Nat
  a : Nat
  b : Nat
  c : Nat
def upd (st : RS) (k : Nat) : RS := match st.t with
  | 0 => ⟨0, st.d + 1, 10 * st.a + k, st.b, st.c⟩
  | 1 => ⟨1, st.d + 1, st.a, 10 * st.b + k, st.c⟩
  | t => ⟨t, st.d + 1, st.a, st.b, 10 * st.c + k⟩
def rstep (st : RS) (x : UInt8) : Option RS :=
  if x.toNat = 46 then (if st.t = 2 then none else some ⟨st.t + 1, 0, st.a, st.b, st.c⟩)
  else if 48 ≤ x.toNat ∧ x.toNat ≤ 57 ∧ st.d < 5 then some (upd st (x.toNat - 48)) else none
def rfold : List UInt8 → RS → Option RS
  | [], st => some st
  | x :: r, st => (rstep st x).bind (rfold r)
theorem rfold_app : ∀ (l m : List UInt8) (st : RS), rfold (l ++ m) st = (rfold l st).bind (rfold m)
  | [], _, _ => rfl
  | x :: r, m, st => by
    rw [List.cons_append, rfold, rfold]
    cases rstep st x with
    | none => rfl
    | some s2 => simp only [Option.bind_some]; exact rfold_app r m s2
def rs0 : RS := ⟨0, 0, 0, 0, 0⟩
def ROk (st : RS) : Prop := st.t ≤ 2 ∧ st.d ≤ 5 ∧ st.a < 100000 ∧ st.b < 100000 ∧ st.c < 100000 ∧ (st.t = 0 → st.a < 10 ^ st.d ∧ st.b = 0 ∧ st.c = 0) ∧ (st.t = 1 → st.b < 10 ^ st.d ∧ st.c = 0) ∧ (st.t = 2 → st.c < 10 ^ st.d)
theorem rok0 : ROk rs0 := by unfold ROk rs0; decide
theorem rstep_ok {st st' : RS} {x : UInt8} (h : ROk st) (e : rstep st x = some st') : ROk st' := by
  obtain ⟨t, d, a, b, c⟩ := st
  obtain ⟨h1, h2, h3, h4, h5, h6, h7, h8⟩ := h
  dsimp only at *
  unfold rstep at e
  dsimp only at e
  split at e
  · split at e
    · cases e
    · cases e
      rename_i hx ht
      refine ⟨by show t + 1 ≤ 2; omega, Nat.zero_le _, h3, h4, h5, fun q => ?_, fun q => ?_, fun q => ?_⟩
      · exact absurd q (by show ¬ t + 1 = 0; omega)
      · have : t = 0 := by have : t + 1 = 1 := q; omega
        obtain ⟨q1, q2, q3⟩ := h6 this
        exact ⟨by show b < 1; omega, q3⟩
      · have : t = 1 := by have : t + 1 = 2 := q; omega
        obtain ⟨q1, q2⟩ := h7 this
        show c < 1
        omega
  · split at e
    · rename_i hx hc
      cases e
      have hp : 10 ^ (d + 1) ≤ 100000 := by
        have : 10 ^ (d + 1) ≤ 10 ^ 5 := Nat.pow_le_pow_right (by omega) (by omega)
        exact this
      have ht : t = 0 ∨ t = 1 ∨ t = 2 := by omega
      rcases ht with rfl | rfl | rfl
      · obtain ⟨q1, q2, q3⟩ := h6 rfl
        have : 10 * a + (x.toNat - 48) < 10 ^ (d + 1) := by rw [Nat.pow_succ]; omega
        exact ⟨by show 0 ≤ 2; omega, by show d + 1 ≤ 5; omega, by show 10 * a + (x.toNat - 48) < 100000; omega, h4, h5, (fun _ => ⟨this, q2, q3⟩ : _ → _), (fun q => absurd q (by show ¬ 0 = 1; omega) : _ → _), (fun q => absurd q (by show ¬ 0 = 2; omega) : _ → _)⟩
      · obtain ⟨q1, q2⟩ := h7 rfl
        have : 10 * b + (x.toNat - 48) < 10 ^ (d + 1) := by rw [Nat.pow_succ]; omega
        exact ⟨by show 1 ≤ 2; omega, by show d + 1 ≤ 5; omega, h3, by show 10 * b + (x.toNat - 48) < 100000; omega, h5, (fun q => absurd q (by show ¬ 1 = 0; omega) : _ → _), (fun _ => ⟨this, q2⟩ : _ → _), (fun q => absurd q (by show ¬ 1 = 2; omega) : _ → _)⟩
      · have q1 := h8 rfl
        have : 10 * c + (x.toNat - 48) < 10 ^ (d + 1) := by rw [Nat.pow_succ]; omega
        exact ⟨by show 2 ≤ 2; omega, by show d + 1 ≤ 5; omega, h3, h4, by show 10 * c + (x.toNat - 48) < 100000; omega, (fun q => absurd q (by show ¬ 2 = 0; omega) : _ → _), (fun q => absurd q (by show ¬ 2 = 1; omega) : _ → _), (fun _ => this : _ → _)⟩
    · cases e
theorem rfold_dig : ∀ (l : List UInt8) (st : RS), (∀ x ∈ l, isDig x) → st.t ≤ 2 → st.d + l.length ≤ 5 → rfold l st = some (match st.t with
    | 0 => ⟨0, st.d + l.length, l.foldl (fun n c => 10 * n + (c.toNat - 48)) st.a, st.b, st.c⟩
    | 1 => ⟨1, st.d + l.length, st.a, l.foldl (fun n c => 10 * n + (c.toNat - 48)) st.b, st.c⟩
    | t => ⟨t, st.d + l.length, st.a, st.b, l.foldl (fun n c => 10 * n + (c.toNat - 48)) st.c⟩)
  | [], ⟨t, d, a, b, c⟩, _, ht, _ => by
    dsimp only at ht
    have ht : t = 0 ∨ t = 1 ∨ t = 2 := by omega
    rcases ht with rfl | rfl | rfl <;> rfl
  | x :: r, ⟨t, d, a, b, c⟩, hd, ht, hl => by
    dsimp only at ht hl
    have hx := hd x (by simp)
    unfold isDig at hx
    rw [List.length_cons] at hl
    have hst : rstep ⟨t, d, a, b, c⟩ x = some (upd ⟨t, d, a, b, c⟩ (x.toNat - 48)) := by
      unfold rstep
      rw [if_neg (by omega), if_pos ⟨hx.1, hx.2, by show d < 5; omega⟩]
    rw [rfold, hst, Option.bind_some]
    have ht : t = 0 ∨ t = 1 ∨ t = 2 := by omega
    rcases ht with rfl | rfl | rfl
    · rw [rfold_dig r (upd ⟨0, d, a, b, c⟩ (x.toNat - 48)) (fun y hy => hd y (by simp [hy])) (by show 0 ≤ 2; omega) (by show d + 1 + r.length ≤ 5; omega)]
      simp only [upd, List.foldl_cons, List.length_cons]
      rw [show d + (r.length + 1) = d + 1 + r.length by omega]
    · rw [rfold_dig r (upd ⟨1, d, a, b, c⟩ (x.toNat - 48)) (fun y hy => hd y (by simp [hy])) (by show 1 ≤ 2; omega) (by show d + 1 + r.length ≤ 5; omega)]
      simp only [upd, List.foldl_cons, List.length_cons]
      rw [show d + (r.length + 1) = d + 1 + r.length by omega]
    · rw [rfold_dig r (upd ⟨2, d, a, b, c⟩ (x.toNat - 48)) (fun y hy => hd y (by simp [hy])) (by show 2 ≤ 2; omega) (by show d + 1 + r.length ≤ 5; omega)]
      simp only [upd, List.foldl_cons, List.length_cons]
      rw [show d + (r.length + 1) = d + 1 + r.length by omega]
theorem dec_fold (u : Nat) (h : u < 2 ^ 64) : (dec u).foldl (fun n c => 10 * n + (c.toNat - 48)) 0 = u := dec_val u h
theorem rfold_vtext (a b c : Int) (hv : vOk a b c) : ∃ d, rfold (vtext a b c) rs0 = some ⟨2, d, a.toNat, b.toNat, c.toNat⟩ := by
  unfold vOk at hv
  have l1 := ndig_small (u := a.toNat) (k := 5) (by omega) (by omega) (by omega)
  have l2 := ndig_small (u := b.toNat) (k := 5) (by omega) (by omega) (by omega)
  have l3 := ndig_small (u := c.toNat) (k := 5) (by omega) (by omega) (by omega)
  have h46 : (46 : UInt8).toNat = 46 := rfl
  unfold vtext
  rw [rfold_app, rfold_dig (dec a.toNat) rs0 (dec_dig _) (by decide) (by rw [dec_len]; show 0 + _ ≤ 5; omega)]
  simp only [rs0, Option.bind_some, dec_fold a.toNat (by omega)]
  have s1 : ∀ d, rstep ⟨0, d, a.toNat, 0, 0⟩ 46 = some ⟨1, 0, a.toNat, 0, 0⟩ := fun d => rfl
  rw [rfold, s1, Option.bind_some, rfold_app, rfold_dig (dec b.toNat) _ (dec_dig _) (by show 1 ≤ 2; omega) (by rw [dec_len]; show 0 + _ ≤ 5; omega)]
  simp only [Option.bind_some, dec_fold b.toNat (by omega)]
  have s2 : ∀ d, rstep ⟨1, d, a.toNat, b.toNat, 0⟩ 46 = some ⟨2, 0, a.toNat, b.toNat, 0⟩ := fun d => rfl
  rw [rfold, s2, Option.bind_some, rfold_dig (dec c.toNat) _ (dec_dig _) (by show 2 ≤ 2; omega) (by rw [dec_len]; show 0 + _ ≤ 5; omega)]
  simp only [dec_fold c.toNat (by omega)]
  exact ⟨_, rfl⟩
structure RPS where
  i : Nat
  st : RS
set_option maxHeartbeats 1000000 in
theorem refParse_ok (s : List UInt8) (hs : s.length ≤ 1000000) (h : Heap) : ACalls Tryz.prog 71 [.string (bs s)] h fun v h' => RV3 s v (.bool true) (.bool false) ∧ h' = h := by
  have bad : ∀ v, v = Value.tuple #[.agg (iv 0 0 0).toArray, .bool false] → (∀ a b c, vOk a b c → s ≠ vtext a b c) → RV3 s v (.bool true) (.bool false) := fun v hv hn => ⟨fun a b c h1 h2 => absurd h2 (hn a b c h1), fun _ => hv⟩
  have hiv : ∀ n x y z, VBelow n (.agg (iv x y z).toArray) := fun n x y z => .agg fun k hk => by
    have : (iv x y z).toArray.getD k unk ∈ iv x y z := by
      have hk' : k < (iv x y z).length := by simpa using hk
      simp [Array.getD, hk']
    exact iv_bel _ this
  refine ACalls.same' (R := fun v => RV3 s v (.bool true) (.bool false)) (fun v hv => ?_) (acalls_ofR mix Tryz.func71 k71 n71 (by simp) fun hcl hb => ?_)
  · by_cases hx : ∃ a b c, vOk a b c ∧ s = vtext a b c
    · obtain ⟨a, b, c, h1, h2⟩ := hx
      rw [hv.1 a b c h1 h2]
      exact vb_tup2 (hiv _ _ _ _) .bool
    · rw [hv.2 fun a b c h1 h2 => hx ⟨a, b, c, h1, h2⟩]
      exact vb_tup2 (hiv _ _ _ _) .bool
  have z3 : ([.int .i64 0, .int .i64 0, .int .i64 0] : List Value) = iv 0 0 0 := rfl
  have za : ∀ x y z, afill (iv x y z) [] = some (iv x y z) := fun x y z => rfl
  have hl3 : ∀ x y z, (iv x y z).length = 3 := fun x y z => rfl
  have hp0 : ∀ p q r x y z, aput (iv p q r) 0 (iv x y z) = iv x y z := fun p q r x y z => rfl
  have hcz := closed_push (o := .cells (iv 0 0 0) .ex 1) hcl iv_bel
  have hf0 := cellsOf_new h (iv 0 0 0) .ex 1
  have e0 := (Heap.Ext.refl h).push hcl (.cells (iv 0 0 0) .ex 1)
  have n0 : (h.push (.cells (iv 0 0 0) .ex 1)).n = h.n + 1 := rfl
  have nog_of : rfold s rs0 = none → ∀ a b c, vOk a b c → s ≠ vtext a b c := fun hn a b c h1 h2 => by
    obtain ⟨d, hd⟩ := rfold_vtext a b c h1
    rw [← h2, hn] at hd
    cases hd
  simp only [c71, s_seq, s_ops]
  simp [z3, za]
  generalize h.push (.cells (iv 0 0 0) .ex 1) = H0 at *
  rw [← n0]
  have f2 : ∀ x y z, (H0.push (.cells (iv x y z) .ex 1)).cellsOf H0.n = some (iv x y z, .ex, 1) := fun x y z => cellsOf_new _ _ _ _
  have f2' : ∀ x y z, (H0.push (.cells (iv x y z) .ex 1)).cellsOf h.n = some (iv 0 0 0, .ex, 1) := fun x y z => by
    rw [cellsOf_ne (by omega)]; exact hf0
  have hSt : ∀ x y z o, (H0.push (.cells (iv x y z) .ex 1)).set H0.n o = H0.push o := fun x y z o => set_push _ _ _
  have hcHH : ∀ x y z, (H0.push (.cells (iv x y z) .ex 1)).Closed := fun x y z => closed_push hcz iv_bel
  have e2 : ∀ x y z, h.Ext (H0.push (.cells (iv x y z) .ex 1)) := fun x y z => e0.push hcl _
  have e3 : ∀ x y z o, h.Ext ((H0.push (.cells (iv x y z) .ex 1)).set h.n o) := fun x y z o => ⟨by show h.n ≤ H0.n + 1; omega, fun b ob eb => by
    have := (hcl b ob eb).1
    rw [set_m, if_neg (by omega)]; exact (e2 x y z).m b ob eb⟩
  simp [f2, mc_iv, hl3, hp0, hSt]
  refine awp_loop_of (α := RPS) (fun u => u.i ≤ s.length ∧ rfold (s.take u.i) rs0 = some u.st ∧ ROk u.st)
    (fun u => [(0, .string (bs s)), (2, .pointer (some ⟨h.n, 0, none⟩)), (4, .pointer (some ⟨H0.n, 0, none⟩)), (5, .int .i64 u.st.t), (6, .int .i64 u.st.d), (7, .int .i64 u.i)])
    (fun u => H0.push (.cells (iv u.st.a u.st.b u.st.c) .ex 1)) (fun u => s.length - u.i) ⟨0, rs0⟩
    ⟨Nat.zero_le _, rfl, rok0⟩ ⟨by show h.n ≤ H0.n + 1; omega, Nat.le_refl _, fun _ _ e => e, hcHH _ _ _⟩
    (by simp [rs0]; repeat' (first | exact .int | exact .bool | exact .string | exact .ptr (by show h.n < H0.n + 1; omega) | exact .ptr (by show H0.n < H0.n + 1; omega) | rfl | apply And.intro)) ?_
  rintro ⟨i, ⟨t, d, a, b, c⟩⟩ ⟨hi, hf, hok⟩
  dsimp only at hi hf hok ⊢
  have hok' := hok
  obtain ⟨t2, d5, ha, hb2, hc2, _, _, _⟩ := hok'
  dsimp only at t2 d5 ha hb2 hc2
  by_cases hil : i < s.length
  · have hil' : i < s.length := hil
    have hil2 : (i : Int) < s.length := by omega
    have hgs : (bs s).data[i]? = some s[i] := by
      have : (bs s).data.toList[i]? = some s[i] := by rw [bs_data, List.getElem?_eq_getElem hil]
      simpa using this
    have hcb := s[i].toNat_lt
    have w4 : IntKind.i64.wrap ((i : Int) + 1) = ((i + 1 : Nat) : Int) := w1 i (by omega)
    have htk : rfold (s.take (i + 1)) rs0 = rstep ⟨t, d, a, b, c⟩ s[i] := by
      rw [List.take_succ_eq_append_getElem hil, rfold_app, hf, Option.bind_some]
      show (rstep _ s[i]).bind (rfold []) = _
      cases rstep ⟨t, d, a, b, c⟩ s[i] <;> rfl
    have hall : rstep ⟨t, d, a, b, c⟩ s[i] = none → rfold s rs0 = none := fun hn => by
      have : s = s.take (i + 1) ++ s.drop (i + 1) := (List.take_append_drop _ _).symm
      rw [this, rfold_app, htk, hn]
      rfl
    have hsz : (bs s).size = s.length := bs_size s
    have hgg : ∀ hh : i < (bs s).data.size, (bs s).data[i]'hh = s[i] := fun hh => by rw [Array.getElem?_eq_getElem hh] at hgs; exact Option.some.inj hgs
    generalize hX : s[i] = X at *
    have hrs : rstep ⟨t, d, a, b, c⟩ X = (if X.toNat = 46 then (if t = 2 then none else some ⟨t + 1, 0, a, b, c⟩) else if 48 ≤ X.toNat ∧ X.toNat ≤ 57 ∧ d < 5 then some (upd ⟨t, d, a, b, c⟩ (X.toNat - 48)) else none) := rfl
    generalize hx : X.toNat = x at *
    have wt : IntKind.i64.wrap ((t : Int) + 1) = ((t + 1 : Nat) : Int) := w1 t (by omega)
    have wd : IntKind.i64.wrap ((d : Int) + 1) = ((d + 1 : Nat) : Int) := w1 d (by omega)
    have wx : IntKind.i64.wrap (x : Int) = (x : Int) := i64w x (by omega)
    have w33 : IntKind.i64.wrap (3 : Int) = 3 := rfl
    by_cases h46 : x = 46
    · have x46 : ((x : Int) = 46) = True := eq_true (by omega)
      have x46' : (x = 46) = True := eq_true h46
      rw [if_pos h46] at hrs
      by_cases ht2 : t = 2
      · rw [if_pos ht2] at hrs
        subst ht2
        simp [c71_0, hil2, aidx_of hil, hsz, hgg, hgs, hx, x46, x46', w33, z3, za, f2', mc_iv, hp0, hl3, apart, cellsOf_set, acut_iv]
        exact ⟨bad _ rfl (nog_of (hall hrs)), e3 _ _ _ _⟩
      · rw [if_neg ht2] at hrs
        have ht3 : ¬ ((t + 1 : Nat) : Int) = 3 := by omega
        have ht3' : ¬ t + 1 = 3 := by omega
        simp [c71_0, hil2, aidx_of hil, hsz, hgg, hgs, hx, x46, x46', wt, ht3, ht3', w4, -Int.natCast_add]
        exact ⟨⟨i + 1, ⟨t + 1, 0, a, b, c⟩⟩, by show s.length - (i + 1) < s.length - i; omega, ⟨by show i + 1 ≤ s.length; omega, htk.trans hrs, rstep_ok hok hrs⟩, ⟨by show h.n ≤ H0.n + 1; omega, Nat.le_refl _, fun _ _ e => e, hcHH _ _ _⟩, by repeat' (first | exact .int | exact .bool | exact .string | exact .ptr (by show h.n < H0.n + 1; omega) | exact .ptr (by show H0.n < H0.n + 1; omega) | rfl | apply And.intro)⟩
    · have x46 : ¬ (x : Int) = 46 := by omega
      rw [if_neg h46] at hrs
      by_cases hd : 48 ≤ x ∧ x ≤ 57 ∧ d < 5
      · rw [if_pos hd] at hrs
        obtain ⟨k1, k2, k3⟩ := hd
        have d1 : ¬ (x : Int) < 48 := by omega
        have d2 : ¬ (57 : Int) < (x : Int) := by omega
        have d3 : ¬ (5 : Int) < ((d + 1 : Nat) : Int) := by omega
        have d3' : ¬ 5 < d + 1 := by omega
        have hnext := htk.trans hrs
        have hrok := rstep_ok hok hrs
        have hT : t = 0 ∨ t = 1 ∨ t = 2 := by omega
        rcases hT with rfl | rfl | rfl
        · have j1 : aidx (.int .i64 (0 : Int)) 3 = some 0 := rfl
          have g1 : (iv a b c)[0]? = some (.int .i64 a) := rfl
          have g2 : ∀ hh, (iv a b c)[0]'hh = .int .i64 a := fun _ => rfl
          have m1 : IntKind.i64.wrap (10 * (a : Int)) = ((10 * a : Nat) : Int) := by rw [IntWalk.i64_in _ (by omega)]; omega
          have m2 : IntKind.i64.wrap (((10 * a : Nat) : Int) + (x : Int)) = ((10 * a + x : Nat) : Int) := by rw [IntWalk.i64_in _ (by omega)]; omega
          have m3 : IntKind.i64.wrap (((10 * a + x : Nat) : Int) - 48) = ((10 * a + (x - 48) : Nat) : Int) := by rw [IntWalk.i64_in _ (by omega)]; omega
          have hput := (iv_put (a : Int) b c ((10 * a + (x - 48) : Nat) : Int))
          simp [c71_0, hil2, aidx_of hil, hsz, hgg, hgs, hx, x46, h46, d1, d2, d3, d3', wd, wx, j1, f2, apart, g1, g2, m1, m2, m3, mcells, hput.1, hput.2.1, hput.2.2, hl3, hSt, w4, -Int.natCast_add, -Int.natCast_mul]
          exact ⟨⟨i + 1, upd ⟨0, d, a, b, c⟩ (x - 48)⟩, by show s.length - (i + 1) < s.length - i; omega, ⟨by show i + 1 ≤ s.length; omega, hnext, hrok⟩, ⟨by show h.n ≤ H0.n + 1; omega, Nat.le_refl _, fun _ _ e => e, hcHH _ _ _⟩, by repeat' (first | exact .int | exact .bool | exact .string | exact .ptr (by show h.n < H0.n + 1; omega) | exact .ptr (by show H0.n < H0.n + 1; omega) | rfl | apply And.intro)⟩
        · have j1 : aidx (.int .i64 (1 : Int)) 3 = some 1 := rfl
          have g1 : (iv a b c)[1]? = some (.int .i64 b) := rfl
          have g2 : ∀ hh, (iv a b c)[1]'hh = .int .i64 b := fun _ => rfl
          have m1 : IntKind.i64.wrap (10 * (b : Int)) = ((10 * b : Nat) : Int) := by rw [IntWalk.i64_in _ (by omega)]; omega
          have m2 : IntKind.i64.wrap (((10 * b : Nat) : Int) + (x : Int)) = ((10 * b + x : Nat) : Int) := by rw [IntWalk.i64_in _ (by omega)]; omega
          have m3 : IntKind.i64.wrap (((10 * b + x : Nat) : Int) - 48) = ((10 * b + (x - 48) : Nat) : Int) := by rw [IntWalk.i64_in _ (by omega)]; omega
          have hput := (iv_put (a : Int) b c ((10 * b + (x - 48) : Nat) : Int))
          simp [c71_0, hil2, aidx_of hil, hsz, hgg, hgs, hx, x46, h46, d1, d2, d3, d3', wd, wx, j1, f2, apart, g1, g2, m1, m2, m3, mcells, hput.1, hput.2.1, hput.2.2, hl3, hSt, w4, -Int.natCast_add, -Int.natCast_mul]
          exact ⟨⟨i + 1, upd ⟨1, d, a, b, c⟩ (x - 48)⟩, by show s.length - (i + 1) < s.length - i; omega, ⟨by show i + 1 ≤ s.length; omega, hnext, hrok⟩, ⟨by show h.n ≤ H0.n + 1; omega, Nat.le_refl _, fun _ _ e => e, hcHH _ _ _⟩, by repeat' (first | exact .int | exact .bool | exact .string | exact .ptr (by show h.n < H0.n + 1; omega) | exact .ptr (by show H0.n < H0.n + 1; omega) | rfl | apply And.intro)⟩
        · have j1 : aidx (.int .i64 (2 : Int)) 3 = some 2 := rfl
          have g1 : (iv a b c)[2]? = some (.int .i64 c) := rfl
          have g2 : ∀ hh, (iv a b c)[2]'hh = .int .i64 c := fun _ => rfl
          have m1 : IntKind.i64.wrap (10 * (c : Int)) = ((10 * c : Nat) : Int) := by rw [IntWalk.i64_in _ (by omega)]; omega
          have m2 : IntKind.i64.wrap (((10 * c : Nat) : Int) + (x : Int)) = ((10 * c + x : Nat) : Int) := by rw [IntWalk.i64_in _ (by omega)]; omega
          have m3 : IntKind.i64.wrap (((10 * c + x : Nat) : Int) - 48) = ((10 * c + (x - 48) : Nat) : Int) := by rw [IntWalk.i64_in _ (by omega)]; omega
          have hput := (iv_put (a : Int) b c ((10 * c + (x - 48) : Nat) : Int))
          simp [c71_0, hil2, aidx_of hil, hsz, hgg, hgs, hx, x46, h46, d1, d2, d3, d3', wd, wx, j1, f2, apart, g1, g2, m1, m2, m3, mcells, hput.1, hput.2.1, hput.2.2, hl3, hSt, w4, -Int.natCast_add, -Int.natCast_mul]
          exact ⟨⟨i + 1, upd ⟨2, d, a, b, c⟩ (x - 48)⟩, by show s.length - (i + 1) < s.length - i; omega, ⟨by show i + 1 ≤ s.length; omega, hnext, hrok⟩, ⟨by show h.n ≤ H0.n + 1; omega, Nat.le_refl _, fun _ _ e => e, hcHH _ _ _⟩, by repeat' (first | exact .int | exact .bool | exact .string | exact .ptr (by show h.n < H0.n + 1; omega) | exact .ptr (by show H0.n < H0.n + 1; omega) | rfl | apply And.intro)⟩
      · rw [if_neg hd] at hrs
        have nog := nog_of (hall hrs)
        by_cases q1 : x < 48
        · have d1 : (x : Int) < 48 := by omega
          simp [c71_0, hil2, aidx_of hil, hsz, hgg, hgs, hx, x46, h46, d1, wd, w33, z3, za, f2', mc_iv, hp0, hl3, apart, cellsOf_set, acut_iv, -Int.natCast_add]
          exact ⟨bad _ rfl nog, e3 _ _ _ _⟩
        · have d1 : ¬ (x : Int) < 48 := by omega
          by_cases q2 : 57 < x
          · have d2 : (57 : Int) < (x : Int) := by omega
            simp [c71_0, hil2, aidx_of hil, hsz, hgg, hgs, hx, x46, h46, d1, d2, wd, w33, z3, za, f2', mc_iv, hp0, hl3, apart, cellsOf_set, acut_iv, -Int.natCast_add]
            exact ⟨bad _ rfl nog, e3 _ _ _ _⟩
          · have d2 : ¬ (57 : Int) < (x : Int) := by omega
            have d3 : (5 : Int) < ((d + 1 : Nat) : Int) := by omega
            have d3' : 5 < d + 1 := by omega
            simp [c71_0, hil2, aidx_of hil, hsz, hgg, hgs, hx, x46, h46, d1, d2, d3, d3', wd, w33, z3, za, f2', mc_iv, hp0, hl3, apart, cellsOf_set, acut_iv, -Int.natCast_add]
            exact ⟨bad _ rfl nog, e3 _ _ _ _⟩
  · have hie : i = s.length := by omega
    subst hie
    rw [List.take_of_length_le (Nat.le_refl _)] at hf
    have hil2 : ¬ ((s.length : Nat) : Int) < (s.length : Int) := by omega
    have hsz : (bs s).size = s.length := bs_size s
    by_cases ht2 : t = 2
    · have ht2' : ((t : Int) = 2) = True := eq_true (by omega)
      have ht2'' : (t = 2) = True := eq_true ht2
      simp [c71_0, hsz, ht2', ht2'', f2, apart, acut_iv]
      refine (refRight_ok a b c _).mono ?_
      rintro _ h9 ⟨rfl, e⟩
      rw [e]; clear e h9
      have no2 : ∀ a' b' c', vOk a' b' c' → s = vtext a' b' c' → (a : Int) = a' ∧ (b : Int) = b' ∧ (c : Int) = c' := fun a' b' c' h1 h2 => by
        obtain ⟨dd, hd⟩ := rfold_vtext a' b' c' h1
        rw [← h2, hf] at hd
        simp only [Option.some.injEq, RS.mk.injEq] at hd
        unfold vOk at h1
        omega
      by_cases hv : vOk a b c
      · simp [hv, aun, f2, apart, acut_iv]
        refine (refText_ok a b c hv _).mono ?_
        rintro _ h9 ⟨rfl, e⟩
        rw [e]; clear e h9
        by_cases heq : vtext a b c = s
        · have hg : RV3 s (.tuple #[.agg (iv a b c).toArray, .bool true]) (.bool true) (.bool false) := ⟨fun a' b' c' h1 h2 => by
            obtain ⟨e1, e2, e3⟩ := no2 a' b' c' h1 h2
            rw [e1, e2, e3], fun hn => absurd heq.symm (hn a b c hv)⟩
          simp [heq, f2, f2', mc_iv, hp0, hl3, apart, cellsOf_set, acut_iv]
          exact ⟨hg, e3 _ _ _ _⟩
        · have hne : ¬ bs (vtext a b c) = bs s := fun q => heq (bs_inj.1 q)
          have nog : ∀ a b c, vOk a b c → s ≠ vtext a b c := fun a' b' c' h1 h2 => by
            obtain ⟨e1, e2, e3⟩ := no2 a' b' c' h1 h2
            rw [← e1, ← e2, ← e3] at h2
            exact heq h2.symm
          simp [hne, z3, za, f2, f2', mc_iv, hp0, hl3, apart, cellsOf_set, acut_iv]
          exact ⟨bad _ rfl nog, e3 _ _ _ _⟩
      · have nog : ∀ a b c, vOk a b c → s ≠ vtext a b c := fun a' b' c' h1 h2 => by
          obtain ⟨e1, e2, e3⟩ := no2 a' b' c' h1 h2
          rw [← e1, ← e2, ← e3] at h1
          exact hv h1
        simp [hv, aun, z3, za, f2, f2', mc_iv, hp0, hl3, apart, cellsOf_set, acut_iv]
        exact ⟨bad _ rfl nog, e3 _ _ _ _⟩
    · have ht2' : ¬ (t : Int) = 2 := by omega
      have nog : ∀ a b c, vOk a b c → s ≠ vtext a b c := fun a' b' c' h1 h2 => by
        obtain ⟨dd, hd⟩ := rfold_vtext a' b' c' h1
        rw [← h2, hf] at hd
        simp only [Option.some.injEq, RS.mk.injEq] at hd
        exact ht2 hd.1
      simp [c71_0, hsz, ht2', ht2, z3, za, f2, f2', mc_iv, hp0, hl3, apart, cellsOf_set, acut_iv]
      exact ⟨bad _ rfl nog, e3 _ _ _ _⟩

end Go.Proofs.YtofoihlcjmghfaaGreatDoor.vers

