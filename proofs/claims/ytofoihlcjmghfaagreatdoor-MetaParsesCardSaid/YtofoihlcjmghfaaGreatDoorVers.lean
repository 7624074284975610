/-
  Contracts.
-/
import Derived.Test.YtofoihlcjmghfaaGreatDoorStr
import Derived.Test.YtofoihlcjmghfaaGreatDoorAbStep
import Derived.Test.YtofoihlcjmghfaaGreatDoorProg
import Derived.IntWalk
import Derived.KernelRfl
set_option linter.unusedSimpArgs false
set_option linter.unusedVariables false
set_option linter.unusedSectionVars false
namespace Go.Proofs.YtofoihlcjmghfaaGreatDoor.vers
open Go Go.Ab Go.Proofs Go.RowKit Go.Proofs.YtofoihlcjmghfaaGreatDoor.str
variable [Inhabited TabBox]
variable [Nonempty GF]
variable [Nonempty GE]
set_option maxRecDepth 100000
attribute [local simp] s_ops s_seq s_cond s_cond_t s_cond_f s_block s_exit s_ret s_skip s_then_n s_then_n' s_then_e s_then_e' s_then_r s_then_r' s_block_n s_block_r s_block_e s_post_r s_post_n s_res0 s_res1 s_res2 s_res3 s_res4 s_nil s_cons s_guard s_guard_tt s_guard_ff s_guard_tf s_guard_ft s_guard_u s_call s_kL s_put s_put0 s_set s_tmp s_const s_func s_glob s_init s_mkF s_mkF0 s_mv s_bin s_pick s_op aop oK_some oK_none bK_some bK_none b_add b_sub b_mul b_quo b_rem b_and b_or b_xor b_andNot b_shl b_shr b_eql b_neq b_lss b_leq b_gtr b_geq b_sadd b_seql b_sneq b_slss b_sleq b_sgtr b_sgeq s_draw s_drawT s_tK s_tT s_tF s_tB s_tR s_stage s_stage0 s_kW s_kR s_rc0 s_rc s_rcg rK_some rK_none rG_b rG_u s_callv s_callv_f s_nextM s_postR_r s_postR_n s_resA0 s_resAt s_resAc s_resC s_tup0 s_tup1 s_tup2 s_tup3
def c155 : AC := .seq (.ops [⟨some 2,none,.mv (.const (.string ⟨⟨[]⟩⟩))⟩]) (.seq (.seq (.ops [⟨some 4,none,.mv (.tmp 0)⟩,⟨some 5,none,.lenS true (.tmp 4)⟩,⟨some 6,none,.bin .eql (.tmp 5) (.const (.int .i64 0))⟩]) (.cond (.tmp 6) (.seq (.ops [⟨some 2,none,.mv (.const (.string ⟨⟨[]⟩⟩))⟩]) .ret) .skip)) (.seq (.ops [⟨some 7,none,.mv (.tmp 0)⟩,⟨some 8,none,.lenS true (.tmp 7)⟩,⟨some 9,none,.mkSlT 5 [.int .u8 0] 1 (.tmp 8) (.tmp 8)⟩,⟨some 3,none,.mv (.tmp 9)⟩]) (.seq (.ops [⟨some 10,none,.mv (.tmp 3)⟩,⟨some 11,none,.mv (.tmp 0)⟩,⟨some 12,none,.copy 1 (.tmp 10) (.tmp 11)⟩]) (.seq (.ops [⟨some 13,none,.mv (.tmp 3)⟩,⟨some 14,none,.iAddrS 1 (.tmp 13) (.const (.int .i64 0))⟩,⟨some 15,none,.mv (.tmp 3)⟩,⟨some 16,none,.lenS false (.tmp 15)⟩,⟨some 17,none,.ustr 5 (.tmp 14) (.tmp 16)⟩,⟨some 2,none,.mv (.tmp 17)⟩]) .ret))))
theorem k155 : compF Tryz.prog Tryz.f155 = some (c155, [2]) := by kernel_rfl
theorem n155 : Tryz.f155.ntmps = 18 := by kernel_rfl
def c121 : AC := .seq (.ops [⟨some 4,none,.mv (.const (.pointer none))⟩]) (.seq (.draw [([⟨some 5,none,.mv (.tmp 0)⟩,⟨some 6,none,.mv (.tmp 1)⟩,⟨some 8,none,.load none (.global 3)⟩],[⟨some 7,none,.call 155 [.tmp 6]⟩],[⟨some 8,none,.load none (.global 3)⟩]),([⟨some 9,none,.build [.string ⟨⟨[]⟩⟩,.string ⟨⟨[]⟩⟩,.nilIface] [(0,1,.tmp 5),(1,1,.tmp 7),(2,1,.tmp 8)]⟩],[⟨some 10,none,.box (.tmp 9)⟩],[]),([⟨some 4,none,.mv (.tmp 10)⟩],[],[])]) .ret)
theorem k121 : compF Tryz.prog Tryz.f121 = some (c121, [4]) := by kernel_rfl
theorem n121 : Tryz.f121.ntmps = 11 := by kernel_rfl
def c122 : AC := .seq (.ops [⟨some 4,none,.mv (.const (.pointer none))⟩]) (.seq (.draw [([⟨some 5,none,.mv (.tmp 0)⟩,⟨some 6,none,.mv (.tmp 1)⟩,⟨some 8,none,.load none (.global 4)⟩],[⟨some 7,none,.call 155 [.tmp 6]⟩],[⟨some 8,none,.load none (.global 4)⟩]),([⟨some 9,none,.build [.string ⟨⟨[]⟩⟩,.string ⟨⟨[]⟩⟩,.nilIface] [(0,1,.tmp 5),(1,1,.tmp 7),(2,1,.tmp 8)]⟩],[⟨some 10,none,.box (.tmp 9)⟩],[]),([⟨some 4,none,.mv (.tmp 10)⟩],[],[])]) .ret)
theorem k122 : compF Tryz.prog Tryz.f122 = some (c122, [4]) := by kernel_rfl
theorem n122 : Tryz.f122.ntmps = 11 := by kernel_rfl
def c88 : AC := .seq (.ops [⟨some 10,none,.mv (.const .nilIface)⟩]) (.seq (.seq (.ops [⟨some 11,none,.mv (.tmp 4)⟩]) (.block 0 (.seq (.ops [⟨some 13,none,.mkI 174 (.const (.int .i64 2))⟩,⟨some 14,none,.eqi false [2,3,5,6,12,21,39,110,112,162,174,214,243,244,246,247] (.tmp 11) (.tmp 13)⟩,⟨some 12,none,.mv (.tmp 14)⟩]) (.cond (.tmp 12) (.seq (.ops [⟨some 15,none,.mv (.tmp 0)⟩,⟨some 16,none,.mv (.tmp 1)⟩,⟨some 17,none,.call 121 [.tmp 15,.tmp 16]⟩,⟨some 18,none,.mkI 177 (.tmp 17)⟩,⟨some 10,none,.mv (.tmp 18)⟩]) .ret) (.seq (.ops [⟨some 20,none,.mkI 174 (.const (.int .i64 1))⟩,⟨some 21,none,.eqi false [2,3,5,6,12,21,39,110,112,162,174,214,243,244,246,247] (.tmp 11) (.tmp 20)⟩,⟨some 19,none,.mv (.tmp 21)⟩]) (.cond (.tmp 19) (.seq (.ops [⟨some 22,none,.mv (.tmp 0)⟩,⟨some 23,none,.mv (.tmp 1)⟩,⟨some 24,none,.call 122 [.tmp 22,.tmp 23]⟩,⟨some 25,none,.mkI 177 (.tmp 24)⟩,⟨some 10,none,.mv (.tmp 25)⟩]) .ret) (.seq (.ops [⟨some 27,none,.mkI 174 (.const (.int .i64 3))⟩,⟨some 28,none,.eqi false [2,3,5,6,12,21,39,110,112,162,174,214,243,244,246,247] (.tmp 11) (.tmp 27)⟩,⟨some 26,none,.mv (.tmp 28)⟩]) (.cond (.tmp 26) (.seq (.ops [⟨some 29,none,.mv (.tmp 0)⟩,⟨some 30,none,.mv (.tmp 1)⟩,⟨some 31,none,.mv (.tmp 2)⟩,⟨some 32,none,.call 123 [.tmp 29,.tmp 30,.tmp 31]⟩,⟨some 33,none,.mkI 177 (.tmp 32)⟩,⟨some 10,none,.mv (.tmp 33)⟩]) .ret) (.seq (.ops [⟨some 35,none,.mkI 174 (.const (.int .i64 4))⟩,⟨some 36,none,.eqi false [2,3,5,6,12,21,39,110,112,162,174,214,243,244,246,247] (.tmp 11) (.tmp 35)⟩,⟨some 34,none,.mv (.tmp 36)⟩]) (.cond (.tmp 34) (.seq (.ops [⟨some 37,none,.mv (.tmp 0)⟩,⟨some 38,none,.mv (.tmp 1)⟩,⟨some 39,none,.mv (.tmp 3)⟩,⟨some 40,none,.call 124 [.tmp 37,.tmp 38,.tmp 39]⟩,⟨some 41,none,.mkI 177 (.tmp 40)⟩,⟨some 10,none,.mv (.tmp 41)⟩]) .ret) .skip)))))))))) (.seq (.ops [⟨some 42,none,.mv (.tmp 4)⟩,⟨some 10,none,.mv (.tmp 42)⟩]) .ret))
theorem k88 : compF Tryz.prog Tryz.f88 = some (c88, [10]) := by kernel_rfl
theorem n88 : Tryz.f88.ntmps = 43 := by kernel_rfl
theorem clone_ok (l : List UInt8) (hl : l.length ≤ 1000000) (h : Heap) : ACalls Tryz.prog 155 [.string (bs l)] h fun v h' => v = .string (bs l) ∧ h' = h := by
  refine ACalls.same .string (acalls_of mix Tryz.func155 k155 n155 (by simp) fun hcl hb => ?_)
  by_cases h0 : l = []
  · subst h0
    have hs0 : (bs []).size = 0 := rfl
    simp [c155, hs0, bs_lit]
    exact Heap.Ext.refl h
  · have hlp : 0 < l.length := by cases l with | nil => exact absurd rfl h0 | cons a b => simp
    have hl1 : ¬ (l.length : Int) = 0 := by omega
    have hl3 : ¬ l.length = 0 := by omega
    have hsm : (l.length : Int) * 2 ≤ 1099511627776 := by omega
    have hl2 : (l.length : Int) ≤ 9223372036854775807 := by omega
    have hrep : (List.replicate l.length [Value.int .u8 0]).flatten = zl .u8 l.length := by simp [zl]
    have hrep2 : (List.replicate l.length (Value.int .u8 0)) = zl .u8 l.length := rfl
    have hf0 := cellsOf_new h (zl .u8 l.length) (.exT 5) 1
    have hz := zl_len .u8 l.length
    have hul := ubs_len l
    have hfs : afirst (h.push (.cells (zl .u8 l.length) (.exT 5) 1)) 1 l.length (.string (bs l)) = some (ubs l) := by
      simp only [afirst, bs_data, List.take_of_length_le (Nat.le_refl _)]
      rfl
    have hput : aput (zl .u8 l.length) 0 (ubs l) = ubs l := by
      unfold aput
      rw [List.take_zero, Nat.zero_add, hul, List.drop_of_length_le (by rw [hz]; exact Nat.le_refl _)]
      simp
    have hf2 := cellsOf_new h (ubs l) (.exT 5) 1
    have hi0 : aidx (.int .i64 0) l.length = some 0 := aidx_of (i := 0) hlp
    have hcut := acut_full hul
    simp only [c155, s_seq, s_ops]
    simp [bs_size, h0, hl1, hl3, hsm, hrep, hrep2, alen, hfs, hf0, hz, hul, hput, set_push, hi0, hl2, hlp, hf2, hcut, abytes_ubs, bs_mk, bs_lit]
    exact ⟨Nat.le_succ _, fun y ob e => by
      have := (hcl y ob e).1
      rw [kill_m, if_neg (by omega), push_m, if_neg (by omega)]; exact e⟩
theorem synErr_ok (f l : List UInt8) (hl : l.length ≤ 1000000) (h : Heap) : ACalls Tryz.prog 121 [.string (bs f), .string (bs l)] h fun v h' => h.Ext h' := by
  refine acalls_of mix Tryz.func121 k121 n121 (by simp) fun hcl hb => ?_
  have hg := ge.errS
  simp [c121, hg, apart]
  refine (clone_ok l hl h).mono ?_
  rintro _ h9 ⟨rfl, e⟩
  rw [e]; clear e h9
  simp [hg, apart, afill, mcells]
  exact (Heap.Ext.refl h).push hcl _
theorem rngErr_ok (f l : List UInt8) (hl : l.length ≤ 1000000) (h : Heap) : ACalls Tryz.prog 122 [.string (bs f), .string (bs l)] h fun v h' => h.Ext h' := by
  refine acalls_of mix Tryz.func122 k122 n122 (by simp) fun hcl hb => ?_
  have hg := ge.errR
  simp [c122, hg, apart]
  refine (clone_ok l hl h).mono ?_
  rintro _ h9 ⟨rfl, e⟩
  rw [e]; clear e h9
  simp [hg, apart, afill, mcells]
  exact (Heap.Ext.refl h).push hcl _
abbrev ET : Nat := 174
abbrev NT : Nat := 177
theorem toErr_ok (f l : List UInt8) (k : Int) (hk : k = 1 ∨ k = 2) (hl : l.length ≤ 1000000) (h : Heap) :
    ACalls Tryz.prog 88 [.string (bs f), .string (bs l), .int .i64 0, .int .i64 0, .iface ET (.int .i64 k)] h fun v h' => v = .iface NT unk ∧ h' = h := by
  have key : ACalls Tryz.prog 88 [.string (bs f), .string (bs l), .int .i64 0, .int .i64 0, .iface ET (.int .i64 k)] h fun v h' => (∃ u, v = .iface NT u) ∧ h.Ext h' := by
    refine acalls_of mix Tryz.func88 k88 n88 (by simp) fun hcl hb => ?_
    rcases hk with rfl | rfl
    · simp [c88]
      refine (rngErr_ok f l hl h).mono ?_
      intro v h9 e
      simp
      exact e
    · simp [c88]
      refine (synErr_ok f l hl h).mono ?_
      intro v h9 e
      simp
      exact e
  refine ACalls.same (.iface .any) (calls_weak key ?_)
  rintro v h' ⟨⟨u, rfl⟩, e⟩
  exact ⟨.iface NT unk, fun μ x r => by cases r with | iface r => exact .iface .any, rfl, e⟩

def c167 : AC := .seq (.ops [⟨some 2,none,.mv (.const (.int .u8 0))⟩]) (.seq (.ops [⟨some 3,none,.mv (.tmp 0)⟩,⟨some 4,none,.bin .or (.tmp 3) (.const (.int .u8 32))⟩,⟨some 2,none,.mv (.tmp 4)⟩]) .ret)
theorem k167 : compF Tryz.prog Tryz.f167 = some (c167, [2]) := by kernel_rfl
theorem n167 : Tryz.f167.ntmps = 5 := by kernel_rfl
def c154_3 : AC := .seq (.ops [⟨some 102,none,.bin .lss (.tmp 101) (.tmp 100)⟩]) (.seq (.cond (.tmp 102) .skip (.exit 3)) (.seq (.block 4 (.seq (.ops [⟨some 103,none,.iAddrS 1 (.tmp 99) (.tmp 101)⟩,⟨some 104,none,.load none (.tmp 103)⟩,⟨some 15,none,.mv (.tmp 104)⟩]) (.seq (.ops [⟨some 16,none,.mv (.const (.int .u8 0))⟩]) (.seq (.block 5 (.seq (.ops [⟨some 107,none,.mv (.tmp 15)⟩,⟨some 108,none,.bin .eql (.tmp 107) (.const (.int .u8 95))⟩,⟨some 109,none,.mv (.tmp 108)⟩,⟨some 110,some (109,true),.mv (.tmp 8)⟩,⟨some 111,none,.pick (.tmp 109) (.tmp 110) (.const (.bool false))⟩,⟨some 106,none,.mv (.tmp 111)⟩]) (.cond (.tmp 106) (.seq (.ops [⟨some 12,none,.mv (.const (.bool true))⟩]) (.exit 4)) (.seq (.ops [⟨some 113,none,.mv (.tmp 15)⟩,⟨some 114,none,.bin .leq (.const (.int .u8 48)) (.tmp 113)⟩,⟨some 115,none,.mv (.tmp 114)⟩,⟨some 116,some (115,true),.mv (.tmp 15)⟩,⟨some 117,some (115,true),.bin .leq (.tmp 116) (.const (.int .u8 57))⟩,⟨some 118,none,.pick (.tmp 115) (.tmp 117) (.const (.bool false))⟩,⟨some 112,none,.mv (.tmp 118)⟩]) (.cond (.tmp 112) (.ops [⟨some 119,none,.mv (.tmp 15)⟩,⟨some 120,none,.bin .sub (.tmp 119) (.const (.int .u8 48))⟩,⟨some 16,none,.mv (.tmp 120)⟩]) (.seq (.ops [⟨some 122,none,.mv (.tmp 15)⟩,⟨some 123,none,.call 167 [.tmp 122]⟩,⟨some 124,none,.bin .leq (.const (.int .u8 97)) (.tmp 123)⟩,⟨some 125,none,.mv (.tmp 124)⟩,⟨some 126,some (125,true),.mv (.tmp 15)⟩,⟨some 127,some (125,true),.call 167 [.tmp 126]⟩,⟨some 128,some (125,true),.bin .leq (.tmp 127) (.const (.int .u8 122))⟩,⟨some 129,none,.pick (.tmp 125) (.tmp 128) (.const (.bool false))⟩,⟨some 121,none,.mv (.tmp 129)⟩]) (.cond (.tmp 121) (.ops [⟨some 130,none,.mv (.tmp 15)⟩,⟨some 131,none,.call 167 [.tmp 130]⟩,⟨some 132,none,.bin .sub (.tmp 131) (.const (.int .u8 97))⟩,⟨some 133,none,.bin .add (.tmp 132) (.const (.int .u8 10))⟩,⟨some 16,none,.mv (.tmp 133)⟩]) (.seq (.ops [⟨some 105,none,.mkI 174 (.const (.int .i64 2))⟩,⟨some 6,none,.mv (.const (.int .u64 0))⟩,⟨some 7,none,.mv (.tmp 105)⟩]) .ret)))))))) (.seq (.seq (.ops [⟨some 134,none,.mv (.tmp 16)⟩,⟨some 135,none,.mv (.tmp 1)⟩,⟨some 136,none,.toInt .u8 (.tmp 135)⟩,⟨some 137,none,.bin .geq (.tmp 134) (.tmp 136)⟩]) (.cond (.tmp 137) (.seq (.ops [⟨some 138,none,.mkI 174 (.const (.int .i64 2))⟩,⟨some 6,none,.mv (.const (.int .u64 0))⟩,⟨some 7,none,.mv (.tmp 138)⟩]) .ret) .skip)) (.seq (.seq (.ops [⟨some 139,none,.mv (.tmp 13)⟩,⟨some 140,none,.mv (.tmp 10)⟩,⟨some 141,none,.bin .geq (.tmp 139) (.tmp 140)⟩]) (.cond (.tmp 141) (.seq (.ops [⟨some 142,none,.mv (.tmp 11)⟩,⟨some 143,none,.mkI 174 (.const (.int .i64 1))⟩,⟨some 6,none,.mv (.tmp 142)⟩,⟨some 7,none,.mv (.tmp 143)⟩]) .ret) .skip)) (.seq (.ops [⟨some 144,none,.mv (.tmp 13)⟩,⟨some 145,none,.mv (.tmp 1)⟩,⟨some 146,none,.toInt .u64 (.tmp 145)⟩,⟨some 147,none,.bin .mul (.tmp 144) (.tmp 146)⟩,⟨some 13,none,.mv (.tmp 147)⟩]) (.seq (.ops [⟨some 148,none,.mv (.tmp 13)⟩,⟨some 149,none,.mv (.tmp 16)⟩,⟨some 150,none,.toInt .u64 (.tmp 149)⟩,⟨some 151,none,.bin .add (.tmp 148) (.tmp 150)⟩,⟨some 17,none,.mv (.tmp 151)⟩]) (.seq (.seq (.ops [⟨some 152,none,.mv (.tmp 17)⟩,⟨some 153,none,.mv (.tmp 13)⟩,⟨some 154,none,.bin .lss (.tmp 152) (.tmp 153)⟩,⟨some 155,none,.mv (.tmp 154)⟩,⟨some 156,some (155,false),.mv (.tmp 17)⟩,⟨some 157,some (155,false),.mv (.tmp 11)⟩,⟨some 158,some (155,false),.bin .gtr (.tmp 156) (.tmp 157)⟩,⟨some 159,none,.pick (.tmp 155) (.const (.bool true)) (.tmp 158)⟩]) (.cond (.tmp 159) (.seq (.ops [⟨some 160,none,.mv (.tmp 11)⟩,⟨some 161,none,.mkI 174 (.const (.int .i64 1))⟩,⟨some 6,none,.mv (.tmp 160)⟩,⟨some 7,none,.mv (.tmp 161)⟩]) .ret) .skip)) (.ops [⟨some 162,none,.mv (.tmp 17)⟩,⟨some 13,none,.mv (.tmp 162)⟩])))))))))) (.ops [⟨some 163,none,.bin .add (.tmp 101) (.const (.int .i64 1))⟩,⟨some 101,none,.mv (.tmp 163)⟩])))
def c154 : AC := .seq (.ops [⟨some 6,none,.mv (.const (.int .u64 0))⟩,⟨some 7,none,.mv (.const .nilIface)⟩]) (.seq (.seq (.ops [⟨some 18,none,.mv (.tmp 0)⟩,⟨some 19,none,.bin .eql (.tmp 18) (.const (.string ⟨⟨[]⟩⟩))⟩]) (.cond (.tmp 19) (.seq (.ops [⟨some 20,none,.mkI 174 (.const (.int .i64 2))⟩,⟨some 6,none,.mv (.const (.int .u64 0))⟩,⟨some 7,none,.mv (.tmp 20)⟩]) .ret) .skip)) (.seq (.ops [⟨some 21,none,.mv (.tmp 1)⟩,⟨some 22,none,.bin .eql (.tmp 21) (.const (.int .i64 0))⟩,⟨some 8,none,.mv (.tmp 22)⟩]) (.seq (.ops [⟨some 23,none,.mv (.tmp 0)⟩,⟨some 9,none,.mv (.tmp 23)⟩]) (.seq (.block 0 (.seq (.ops [⟨some 26,none,.mv (.tmp 1)⟩,⟨some 27,none,.bin .leq (.const (.int .i64 2)) (.tmp 26)⟩,⟨some 28,none,.mv (.tmp 27)⟩,⟨some 29,some (28,true),.mv (.tmp 1)⟩,⟨some 30,some (28,true),.bin .leq (.tmp 29) (.const (.int .i64 36))⟩,⟨some 31,none,.pick (.tmp 28) (.tmp 30) (.const (.bool false))⟩,⟨some 25,none,.mv (.tmp 31)⟩]) (.cond (.tmp 25) .skip (.seq (.ops [⟨some 33,none,.mv (.tmp 1)⟩,⟨some 34,none,.bin .eql (.tmp 33) (.const (.int .i64 0))⟩,⟨some 32,none,.mv (.tmp 34)⟩]) (.cond (.tmp 32) (.seq (.ops [⟨some 1,none,.mv (.const (.int .i64 10))⟩]) (.seq (.ops [⟨some 35,none,.mv (.tmp 0)⟩,⟨some 36,none,.iStr (.tmp 35) (.const (.int .i64 0))⟩,⟨some 37,none,.bin .eql (.tmp 36) (.const (.int .u8 48))⟩]) (.cond (.tmp 37) (.block 1 (.seq (.ops [⟨some 41,none,.mv (.tmp 0)⟩,⟨some 42,none,.lenS true (.tmp 41)⟩,⟨some 43,none,.bin .geq (.tmp 42) (.const (.int .i64 3))⟩,⟨some 44,none,.mv (.tmp 43)⟩,⟨some 45,some (44,true),.mv (.tmp 0)⟩,⟨some 46,some (44,true),.iStr (.tmp 45) (.const (.int .i64 1))⟩,⟨some 47,some (44,true),.call 167 [.tmp 46]⟩,⟨some 48,some (44,true),.bin .eql (.tmp 47) (.const (.int .u8 98))⟩,⟨some 49,none,.pick (.tmp 44) (.tmp 48) (.const (.bool false))⟩,⟨some 40,none,.mv (.tmp 49)⟩]) (.cond (.tmp 40) (.seq (.ops [⟨some 1,none,.mv (.const (.int .i64 2))⟩]) (.ops [⟨some 50,none,.mv (.tmp 0)⟩,⟨some 51,none,.slS (.tmp 50) (some (.const (.int .i64 2))) none⟩,⟨some 0,none,.mv (.tmp 51)⟩])) (.seq (.ops [⟨some 53,none,.mv (.tmp 0)⟩,⟨some 54,none,.lenS true (.tmp 53)⟩,⟨some 55,none,.bin .geq (.tmp 54) (.const (.int .i64 3))⟩,⟨some 56,none,.mv (.tmp 55)⟩,⟨some 57,some (56,true),.mv (.tmp 0)⟩,⟨some 58,some (56,true),.iStr (.tmp 57) (.const (.int .i64 1))⟩,⟨some 59,some (56,true),.call 167 [.tmp 58]⟩,⟨some 60,some (56,true),.bin .eql (.tmp 59) (.const (.int .u8 111))⟩,⟨some 61,none,.pick (.tmp 56) (.tmp 60) (.const (.bool false))⟩,⟨some 52,none,.mv (.tmp 61)⟩]) (.cond (.tmp 52) (.seq (.ops [⟨some 1,none,.mv (.const (.int .i64 8))⟩]) (.ops [⟨some 62,none,.mv (.tmp 0)⟩,⟨some 63,none,.slS (.tmp 62) (some (.const (.int .i64 2))) none⟩,⟨some 0,none,.mv (.tmp 63)⟩])) (.seq (.ops [⟨some 65,none,.mv (.tmp 0)⟩,⟨some 66,none,.lenS true (.tmp 65)⟩,⟨some 67,none,.bin .geq (.tmp 66) (.const (.int .i64 3))⟩,⟨some 68,none,.mv (.tmp 67)⟩,⟨some 69,some (68,true),.mv (.tmp 0)⟩,⟨some 70,some (68,true),.iStr (.tmp 69) (.const (.int .i64 1))⟩,⟨some 71,some (68,true),.call 167 [.tmp 70]⟩,⟨some 72,some (68,true),.bin .eql (.tmp 71) (.const (.int .u8 120))⟩,⟨some 73,none,.pick (.tmp 68) (.tmp 72) (.const (.bool false))⟩,⟨some 64,none,.mv (.tmp 73)⟩]) (.cond (.tmp 64) (.seq (.ops [⟨some 1,none,.mv (.const (.int .i64 16))⟩]) (.ops [⟨some 74,none,.mv (.tmp 0)⟩,⟨some 75,none,.slS (.tmp 74) (some (.const (.int .i64 2))) none⟩,⟨some 0,none,.mv (.tmp 75)⟩])) (.seq (.ops [⟨some 1,none,.mv (.const (.int .i64 8))⟩]) (.ops [⟨some 38,none,.mv (.tmp 0)⟩,⟨some 39,none,.slS (.tmp 38) (some (.const (.int .i64 1))) none⟩,⟨some 0,none,.mv (.tmp 39)⟩]))))))))) .skip))) (.seq (.ops [⟨some 24,none,.mkI 174 (.const (.int .i64 3))⟩,⟨some 6,none,.mv (.const (.int .u64 0))⟩,⟨some 7,none,.mv (.tmp 24)⟩]) .ret)))))) (.seq (.seq (.ops [⟨some 76,none,.mv (.tmp 2)⟩,⟨some 77,none,.bin .eql (.tmp 76) (.const (.int .i64 0))⟩]) (.cond (.tmp 77) (.ops [⟨some 2,none,.mv (.const (.int .i64 64))⟩]) (.seq (.ops [⟨some 78,none,.mv (.tmp 2)⟩,⟨some 79,none,.bin .lss (.tmp 78) (.const (.int .i64 0))⟩,⟨some 80,none,.mv (.tmp 79)⟩,⟨some 81,some (80,false),.mv (.tmp 2)⟩,⟨some 82,some (80,false),.bin .gtr (.tmp 81) (.const (.int .i64 64))⟩,⟨some 83,none,.pick (.tmp 80) (.const (.bool true)) (.tmp 82)⟩]) (.cond (.tmp 83) (.seq (.ops [⟨some 84,none,.mkI 174 (.const (.int .i64 4))⟩,⟨some 6,none,.mv (.const (.int .u64 0))⟩,⟨some 7,none,.mv (.tmp 84)⟩]) .ret) .skip)))) (.seq (.ops [⟨some 10,none,.mv (.const (.int .u64 0))⟩]) (.seq (.seq (.ops [⟨some 85,none,.mv (.tmp 1)⟩]) (.block 2 (.seq (.ops [⟨some 91,none,.bin .eql (.tmp 85) (.const (.int .i64 10))⟩,⟨some 90,none,.mv (.tmp 91)⟩]) (.cond (.tmp 90) (.ops [⟨some 10,none,.mv (.const (.int .u64 1844674407370955162))⟩]) (.seq (.ops [⟨some 93,none,.bin .eql (.tmp 85) (.const (.int .i64 16))⟩,⟨some 92,none,.mv (.tmp 93)⟩]) (.cond (.tmp 92) (.ops [⟨some 10,none,.mv (.const (.int .u64 1152921504606846976))⟩]) (.ops [⟨some 86,none,.mv (.tmp 1)⟩,⟨some 87,none,.toInt .u64 (.tmp 86)⟩,⟨some 88,none,.bin .quo (.const (.int .u64 18446744073709551615)) (.tmp 87)⟩,⟨some 89,none,.bin .add (.tmp 88) (.const (.int .u64 1))⟩,⟨some 10,none,.mv (.tmp 89)⟩]))))))) (.seq (.ops [⟨some 94,none,.mv (.tmp 2)⟩,⟨some 95,none,.toInt .u64 (.tmp 94)⟩,⟨some 96,none,.bin .shl (.const (.int .u64 1)) (.tmp 95)⟩,⟨some 97,none,.bin .sub (.tmp 96) (.const (.int .u64 1))⟩,⟨some 11,none,.mv (.tmp 97)⟩]) (.seq (.ops [⟨some 12,none,.mv (.const (.bool false))⟩]) (.seq (.ops [⟨some 13,none,.mv (.const (.int .u64 0))⟩]) (.seq (.seq (.ops [⟨some 98,none,.mv (.tmp 0)⟩,⟨some 99,none,.toBytes 5 (.tmp 98)⟩,⟨some 100,none,.lenS false (.tmp 99)⟩,⟨some 101,none,.mv (.const (.int .i64 0))⟩]) (.block 3 (.loop c154_3))) (.seq (.seq (.ops [⟨some 164,none,.mv (.tmp 12)⟩,⟨some 165,none,.mv (.tmp 164)⟩,⟨some 166,some (165,true),.mv (.tmp 9)⟩,⟨some 167,some (165,true),.call 168 [.tmp 166]⟩,⟨some 168,some (165,true),.un .not (.tmp 167)⟩,⟨some 169,none,.pick (.tmp 165) (.tmp 168) (.const (.bool false))⟩]) (.cond (.tmp 169) (.seq (.ops [⟨some 170,none,.mkI 174 (.const (.int .i64 2))⟩,⟨some 6,none,.mv (.const (.int .u64 0))⟩,⟨some 7,none,.mv (.tmp 170)⟩]) .ret) .skip)) (.seq (.ops [⟨some 171,none,.mv (.tmp 13)⟩,⟨some 6,none,.mv (.tmp 171)⟩,⟨some 7,none,.mv (.const .nilIface)⟩]) .ret)))))))))))))
theorem k154 : compF Tryz.prog Tryz.f154 = some (c154, [6, 7]) := by kernel_rfl
theorem n154 : Tryz.f154.ntmps = 172 := by kernel_rfl
def c120 : AC := .seq (.ops [⟨some 6,none,.mv (.const (.int .i64 0))⟩,⟨some 7,none,.mv (.const .nilIface)⟩]) (.seq (.seq (.ops [⟨some 12,none,.mv (.tmp 0)⟩,⟨some 13,none,.bin .eql (.tmp 12) (.const (.string ⟨⟨[]⟩⟩))⟩]) (.cond (.tmp 13) (.seq (.ops [⟨some 14,none,.mkI 174 (.const (.int .i64 2))⟩,⟨some 6,none,.mv (.const (.int .i64 0))⟩,⟨some 7,none,.mv (.tmp 14)⟩]) .ret) .skip)) (.seq (.ops [⟨some 8,none,.mv (.const (.bool false))⟩]) (.seq (.seq (.ops [⟨some 15,none,.mv (.tmp 0)⟩,⟨some 16,none,.iStr (.tmp 15) (.const (.int .i64 0))⟩]) (.block 0 (.seq (.ops [⟨some 18,none,.bin .eql (.tmp 16) (.const (.int .u8 43))⟩,⟨some 17,none,.mv (.tmp 18)⟩]) (.cond (.tmp 17) (.ops [⟨some 19,none,.mv (.tmp 0)⟩,⟨some 20,none,.slS (.tmp 19) (some (.const (.int .i64 1))) none⟩,⟨some 0,none,.mv (.tmp 20)⟩]) (.seq (.ops [⟨some 22,none,.bin .eql (.tmp 16) (.const (.int .u8 45))⟩,⟨some 21,none,.mv (.tmp 22)⟩]) (.cond (.tmp 21) (.seq (.ops [⟨some 23,none,.mv (.tmp 0)⟩,⟨some 24,none,.slS (.tmp 23) (some (.const (.int .i64 1))) none⟩,⟨some 0,none,.mv (.tmp 24)⟩]) (.ops [⟨some 8,none,.mv (.const (.bool true))⟩])) .skip)))))) (.seq (.ops [⟨some 9,none,.mv (.const (.int .u64 0))⟩]) (.seq (.ops [⟨some 26,none,.mv (.tmp 0)⟩,⟨some 27,none,.mv (.tmp 1)⟩,⟨some 28,none,.mv (.tmp 2)⟩,⟨some 29,none,.call 154 [.tmp 26,.tmp 27,.tmp 28]⟩,⟨some 25,none,.mv (.tmp 29)⟩,⟨some 30,none,.extr (.tmp 25) 0⟩,⟨some 31,none,.extr (.tmp 25) 1⟩,⟨some 9,none,.mv (.tmp 30)⟩,⟨some 7,none,.mv (.tmp 31)⟩]) (.seq (.seq (.ops [⟨some 32,none,.mv (.tmp 7)⟩,⟨some 33,none,.eqv true .ifc (.tmp 32) (.const .nilIface)⟩,⟨some 34,none,.mv (.tmp 33)⟩,⟨some 35,some (34,true),.mv (.tmp 7)⟩,⟨some 36,some (34,true),.mkI 174 (.const (.int .i64 1))⟩,⟨some 37,some (34,true),.eqi true [2,3,5,6,12,21,39,110,112,162,174,214,243,244,246,247] (.tmp 35) (.tmp 36)⟩,⟨some 38,none,.pick (.tmp 34) (.tmp 37) (.const (.bool false))⟩]) (.cond (.tmp 38) (.seq (.ops [⟨some 39,none,.mv (.tmp 7)⟩,⟨some 6,none,.mv (.const (.int .i64 0))⟩,⟨some 7,none,.mv (.tmp 39)⟩]) .ret) .skip)) (.seq (.seq (.ops [⟨some 40,none,.mv (.tmp 2)⟩,⟨some 41,none,.bin .eql (.tmp 40) (.const (.int .i64 0))⟩]) (.cond (.tmp 41) (.ops [⟨some 2,none,.mv (.const (.int .i64 64))⟩]) .skip)) (.seq (.ops [⟨some 42,none,.mv (.tmp 2)⟩,⟨some 43,none,.bin .sub (.tmp 42) (.const (.int .i64 1))⟩,⟨some 44,none,.toInt .u64 (.tmp 43)⟩,⟨some 45,none,.bin .shl (.const (.int .u64 1)) (.tmp 44)⟩,⟨some 10,none,.mv (.tmp 45)⟩]) (.seq (.seq (.ops [⟨some 46,none,.mv (.tmp 8)⟩,⟨some 47,none,.un .not (.tmp 46)⟩,⟨some 48,none,.mv (.tmp 47)⟩,⟨some 49,some (48,true),.mv (.tmp 9)⟩,⟨some 50,some (48,true),.mv (.tmp 10)⟩,⟨some 51,some (48,true),.bin .geq (.tmp 49) (.tmp 50)⟩,⟨some 52,none,.pick (.tmp 48) (.tmp 51) (.const (.bool false))⟩]) (.cond (.tmp 52) (.seq (.ops [⟨some 53,none,.mv (.tmp 10)⟩,⟨some 54,none,.bin .sub (.tmp 53) (.const (.int .u64 1))⟩,⟨some 55,none,.toInt .i64 (.tmp 54)⟩,⟨some 56,none,.mkI 174 (.const (.int .i64 1))⟩,⟨some 6,none,.mv (.tmp 55)⟩,⟨some 7,none,.mv (.tmp 56)⟩]) .ret) .skip)) (.seq (.seq (.ops [⟨some 57,none,.mv (.tmp 8)⟩,⟨some 58,none,.mv (.tmp 57)⟩,⟨some 59,some (58,true),.mv (.tmp 9)⟩,⟨some 60,some (58,true),.mv (.tmp 10)⟩,⟨some 61,some (58,true),.bin .gtr (.tmp 59) (.tmp 60)⟩,⟨some 62,none,.pick (.tmp 58) (.tmp 61) (.const (.bool false))⟩]) (.cond (.tmp 62) (.seq (.ops [⟨some 63,none,.mv (.tmp 10)⟩,⟨some 64,none,.toInt .i64 (.tmp 63)⟩,⟨some 65,none,.un .neg (.tmp 64)⟩,⟨some 66,none,.mkI 174 (.const (.int .i64 1))⟩,⟨some 6,none,.mv (.tmp 65)⟩,⟨some 7,none,.mv (.tmp 66)⟩]) .ret) .skip)) (.seq (.ops [⟨some 67,none,.mv (.tmp 9)⟩,⟨some 68,none,.toInt .i64 (.tmp 67)⟩,⟨some 11,none,.mv (.tmp 68)⟩]) (.seq (.seq (.ops [⟨some 69,none,.mv (.tmp 8)⟩]) (.cond (.tmp 69) (.ops [⟨some 70,none,.mv (.tmp 11)⟩,⟨some 71,none,.un .neg (.tmp 70)⟩,⟨some 11,none,.mv (.tmp 71)⟩]) .skip)) (.seq (.ops [⟨some 72,none,.mv (.tmp 11)⟩,⟨some 6,none,.mv (.tmp 72)⟩,⟨some 7,none,.mv (.const .nilIface)⟩]) .ret)))))))))))))
theorem k120 : compF Tryz.prog Tryz.f120 = some (c120, [6, 7]) := by kernel_rfl
theorem n120 : Tryz.f120.ntmps = 73 := by kernel_rfl
def PU (k : IntKind) (v : Value) : Prop := ∃ x e, v = .tuple #[.int k x, e] ∧ (e = .nilIface ∨ ∃ q : Int, e = .iface ET (.int .i64 q) ∧ (q = 1 ∨ q = 2)) ∧ (k = .i64 → IntKind.i64.wrap x = x)
theorem ww (n : Int) : IntKind.i64.wrap (IntKind.i64.wrap n) = IntKind.i64.wrap n := by
  refine IntWalk.i64_in _ ?_
  unfold IntKind.wrap
  simp [IntKind.bits, IntKind.signed]
  omega
theorem PU.err {k : IntKind} (x : Int) (q : Int) (hq : q = 1 ∨ q = 2) (hx : k = .i64 → IntKind.i64.wrap x = x := by intro e; cases e) : PU k (.tuple #[.int k x, .iface ET (.int .i64 q)]) := ⟨x, _, rfl, .inr ⟨q, rfl, hq⟩, hx⟩
theorem PU.nil {k : IntKind} (x : Int) (hx : k = .i64 → IntKind.i64.wrap x = x := by intro e; cases e) : PU k (.tuple #[.int k x, .nilIface]) := ⟨x, _, rfl, .inl rfl, hx⟩
theorem vb_tup2 {n : Nat} {a b : Value} (ha : VBelow n a) (hb : VBelow n b) : VBelow n (.tuple #[a, b]) := vb_tuple2 ha hb
theorem PU.below {k : IntKind} {v : Value} (n : Nat) (h : PU k v) : VBelow n v := by
  obtain ⟨x, e, rfl, rfl | ⟨q, rfl, _⟩⟩ := h
  · exact vb_tup2 .int .nilIface
  · exact vb_tup2 .int (.iface .int)
theorem lower_ok (c : Int) (h : Heap) : ACalls Tryz.prog 167 [.int .u8 c] h fun v h' => v = .int .u8 (abits .or .u8 c 32) ∧ h' = h := by
  refine acalls_of mix Tryz.func167 k167 n167 (by simp) fun hcl hb => ?_
  simp [c167]
structure US where
  i : Nat
  n : Int
set_option maxHeartbeats 2000000 in
theorem puint_ok (l : List UInt8) (hl : l.length ≤ 1000000) (h : Heap) : ACalls Tryz.prog 154 [.string (bs l), .int .i64 10, .int .i64 0] h fun v h' => PU .u64 v ∧ h' = h := by
  refine ACalls.same' (R := PU .u64) (fun v hv => hv.below _) (acalls_of mix Tryz.func154 k154 n154 (by simp) fun hcl hb => ?_)
  by_cases h0 : l = []
  · subst h0
    simp [c154, bs_lit]
    exact ⟨PU.err _ _ (.inr rfl), Heap.Ext.refl h⟩
  · have hne : ¬ bs l = bs [] := fun q => h0 (bs_inj.1 q)
    have hsz : (bs l).size ≤ 1099511627776 := by rw [bs_size]; omega
    have hm64 : min 64 IntKind.u64.bits = 64 := rfl
    have hw64 : IntKind.u64.wrap (64 : Int) = 64 := rfl
    have hsl : IntKind.u64.wrap (1 * 2 ^ 64) = 0 := by decide
    have hsl' : IntKind.u64.wrap (18446744073709551616 : Int) = 0 := by decide
    have hmx : IntKind.u64.wrap ((0 : Int) - 1) = 18446744073709551615 := by decide
    have hmx' : IntKind.u64.wrap (-1 : Int) = 18446744073709551615 := by decide
    have hb1 : ((bs l).data.toList.map fun b => Value.int .u8 (b.toNat : Int)) = ubs l := by rw [bs_data]; rfl
    have hb2 : (List.map (fun b => Value.int .u8 (b.toNat : Int)) (bs l).data.toList) = ubs l := hb1
    simp only [c154, s_seq, s_ops]
    simp [bs_lit, hne, hsz, hm64, hw64, hsl, hsl', hmx, hmx']
    rw [hb2]
    have hc1 : (h.push (.cells (ubs l) (.loose 5) 1)).Closed := closed_push hcl ubs_bel
    have hf1 := cellsOf_new h (ubs l) (.loose 5) 1
    have e1 := (Heap.Ext.refl h).push hcl (.cells (ubs l) (.loose 5) 1)
    refine awp_loop_of (α := US) (fun z => z.i ≤ l.length)
      (fun z => [(1, .int .i64 10), (10, .int .u64 1844674407370955162), (11, .int .u64 18446744073709551615), (8, .bool false), (12, .bool false), (13, .int .u64 z.n), (99, .slice (some ⟨h.n, 0, none⟩) l.length l.length), (100, .int .i64 l.length), (101, .int .i64 z.i)])
      (fun _ => h.push (.cells (ubs l) (.loose 5) 1)) (fun z => l.length - z.i) ⟨0, 0⟩ (Nat.zero_le _) ⟨Nat.le_succ _, Nat.le_refl _, fun _ _ e => e, hc1⟩
      (by simp [bs_size]; repeat' (first | exact .int | exact .bool | exact .string | exact vb_slice (Nat.lt_succ_self _) | rfl | apply And.intro)) ?_
    rintro ⟨i, n⟩ hi
    dsimp only at hi ⊢
    by_cases hil : i < l.length
    · have hil' : (i : Int) < l.length := by omega
      have hg := ubs_get hil
      have hltu : i < (ubs l).length := by rw [ubs_len]; exact hil
      have hg' : (ubs l)[i] = .int .u8 (l[i].toNat : Int) := by rw [List.getElem?_eq_getElem hltu] at hg; exact Option.some.inj hg
      have hcb := l[i].toNat_lt
      have w4 : IntKind.i64.wrap ((i : Int) + 1) = ((i + 1 : Nat) : Int) := w1 i (by omega)
      generalize l[i].toNat = c at *
      have hw10 : IntKind.u8.wrap (10 : Int) = 10 := rfl
      have hw10' : IntKind.u64.wrap (10 : Int) = 10 := rfl
      by_cases hd : 48 ≤ c ∧ c ≤ 57
      · have d1 : (48 : Int) ≤ (c : Int) := by omega
        have d2 : (c : Int) ≤ 57 := by omega
        have d3 : ¬ (c : Int) = 95 := by omega
        have d3' : ¬ c = 95 := by omega
        have d4 : IntKind.u8.wrap ((c : Int) - 48) = ((c - 48 : Nat) : Int) := by unfold IntKind.wrap; simp [IntKind.bits, IntKind.signed]; omega
        have d5 : ¬ (10 : Int) ≤ ((c - 48 : Nat) : Int) := by omega
        have d6 : IntKind.u64.wrap ((c - 48 : Nat) : Int) = ((c - 48 : Nat) : Int) := u64w _ (by omega)
        by_cases q3 : (1844674407370955162 : Int) ≤ n
        · simp [c154_3, hil', aidx_of hil, hf1, apart, hltu, hg', d1, d2, d3, d3', d4, d5, d6, hw10, hw10', q3]
          exact ⟨PU.err _ _ (.inl rfl), e1⟩
        · obtain ⟨n2, hn2⟩ : ∃ n2, IntKind.u64.wrap (n * 10) = n2 := ⟨_, rfl⟩
          obtain ⟨n3, hn3⟩ : ∃ n3, IntKind.u64.wrap (n2 + ((c - 48 : Nat) : Int)) = n3 := ⟨_, rfl⟩
          by_cases q4 : n3 < n2
          · simp [c154_3, hil', aidx_of hil, hf1, apart, hltu, hg', d1, d2, d3, d3', d4, d5, d6, hw10, hw10', q3, hn2, hn3, q4]
            exact ⟨PU.err _ _ (.inl rfl), e1⟩
          · by_cases q5 : (18446744073709551615 : Int) < n3
            · simp [c154_3, hil', aidx_of hil, hf1, apart, hltu, hg', d1, d2, d3, d3', d4, d5, d6, hw10, hw10', q3, hn2, hn3, q4, q5]
              exact ⟨PU.err _ _ (.inl rfl), e1⟩
            · simp [c154_3, hil', aidx_of hil, hf1, apart, hltu, hg', d1, d2, d3, d3', d4, d5, d6, hw10, hw10', q3, hn2, hn3, q4, q5, w4, -Int.natCast_add]
              exact ⟨⟨i + 1, n3⟩, by show l.length - (i + 1) < l.length - i; omega, by show i + 1 ≤ l.length; omega, ⟨Nat.le_succ _, Nat.le_refl _, fun _ _ e => e, hc1⟩, by repeat' (first | exact .int | exact .bool | exact .string | exact vb_slice (Nat.lt_succ_self _) | rfl | apply And.intro)⟩
      · obtain ⟨lo, hlo⟩ : ∃ lo, abits .or .u8 (c : Int) 32 = lo := ⟨_, rfl⟩
        by_cases k1 : 48 ≤ c
        · have d1 : (48 : Int) ≤ (c : Int) := by omega
          have d2 : ¬ (c : Int) ≤ 57 := by omega
          by_cases k2 : c = 95
          · have d3 : ((c : Int) = 95) = True := eq_true (by omega)
            have d4 : (c = 95) = True := eq_true k2
            simp [c154_3, hil', aidx_of hil, hf1, apart, hltu, hg', hw10, hw10', d1, d2, d3, d4]
            refine (lower_ok c _).mono ?_
            rintro _ h9 ⟨rfl, e⟩
            rw [e]; clear e h9
            by_cases p1 : (97 : Int) ≤ lo
            · simp [hlo, p1]
              refine (lower_ok c _).mono ?_
              rintro _ h9 ⟨rfl, e⟩
              rw [e]; clear e h9
              by_cases p2 : lo ≤ 122
              · have p3 : IntKind.u8.wrap (lo - 97) = lo - 97 := by unfold IntKind.wrap; simp [IntKind.bits, IntKind.signed]; omega
                have p4 : IntKind.u8.wrap (lo - 97 + 10) = lo - 97 + 10 := by unfold IntKind.wrap; simp [IntKind.bits, IntKind.signed]; omega
                have p5 : (10 : Int) ≤ lo - 97 + 10 := by omega
                simp [hlo, p2]
                refine (lower_ok c _).mono ?_
                rintro _ h9 ⟨rfl, e⟩
                rw [e]; clear e h9
                simp [hlo, p3, p4, p5, hw10]
                exact ⟨PU.err _ _ (.inr rfl), e1⟩
              · simp [hlo, p2]
                exact ⟨PU.err _ _ (.inr rfl), e1⟩
            · simp [hlo, p1]
              exact ⟨PU.err _ _ (.inr rfl), e1⟩
          · have d3 : ¬ (c : Int) = 95 := by omega
            simp [c154_3, hil', aidx_of hil, hf1, apart, hltu, hg', hw10, hw10', d1, d2, d3, k2]
            refine (lower_ok c _).mono ?_
            rintro _ h9 ⟨rfl, e⟩
            rw [e]; clear e h9
            by_cases p1 : (97 : Int) ≤ lo
            · simp [hlo, p1]
              refine (lower_ok c _).mono ?_
              rintro _ h9 ⟨rfl, e⟩
              rw [e]; clear e h9
              by_cases p2 : lo ≤ 122
              · have p3 : IntKind.u8.wrap (lo - 97) = lo - 97 := by unfold IntKind.wrap; simp [IntKind.bits, IntKind.signed]; omega
                have p4 : IntKind.u8.wrap (lo - 97 + 10) = lo - 97 + 10 := by unfold IntKind.wrap; simp [IntKind.bits, IntKind.signed]; omega
                have p5 : (10 : Int) ≤ lo - 97 + 10 := by omega
                simp [hlo, p2]
                refine (lower_ok c _).mono ?_
                rintro _ h9 ⟨rfl, e⟩
                rw [e]; clear e h9
                simp [hlo, p3, p4, p5, hw10]
                exact ⟨PU.err _ _ (.inr rfl), e1⟩
              · simp [hlo, p2]
                exact ⟨PU.err _ _ (.inr rfl), e1⟩
            · simp [hlo, p1]
              exact ⟨PU.err _ _ (.inr rfl), e1⟩
        · have d1 : ¬ (48 : Int) ≤ (c : Int) := by omega
          have d3 : ¬ (c : Int) = 95 := by omega
          have k2 : ¬ c = 95 := by omega
          simp [c154_3, hil', aidx_of hil, hf1, apart, hltu, hg', hw10, hw10', d1, d3, k2]
          refine (lower_ok c _).mono ?_
          rintro _ h9 ⟨rfl, e⟩
          rw [e]; clear e h9
          by_cases p1 : (97 : Int) ≤ lo
          · simp [hlo, p1]
            refine (lower_ok c _).mono ?_
            rintro _ h9 ⟨rfl, e⟩
            rw [e]; clear e h9
            by_cases p2 : lo ≤ 122
            · have p3 : IntKind.u8.wrap (lo - 97) = lo - 97 := by unfold IntKind.wrap; simp [IntKind.bits, IntKind.signed]; omega
              have p4 : IntKind.u8.wrap (lo - 97 + 10) = lo - 97 + 10 := by unfold IntKind.wrap; simp [IntKind.bits, IntKind.signed]; omega
              have p5 : (10 : Int) ≤ lo - 97 + 10 := by omega
              simp [hlo, p2]
              refine (lower_ok c _).mono ?_
              rintro _ h9 ⟨rfl, e⟩
              rw [e]; clear e h9
              simp [hlo, p3, p4, p5, hw10]
              exact ⟨PU.err _ _ (.inr rfl), e1⟩
            · simp [hlo, p2]
              exact ⟨PU.err _ _ (.inr rfl), e1⟩
          · simp [hlo, p1]
            exact ⟨PU.err _ _ (.inr rfl), e1⟩
    · have hie : i = l.length := by omega
      have hil' : ¬ (i : Int) < l.length := by omega
      simp [c154_3, hil']
      exact ⟨PU.nil _, e1⟩
theorem shl63 : IntKind.u64.wrap (1 * 2 ^ 63) = 9223372036854775808 := by decide
theorem pint_ok (l : List UInt8) (hl : l.length ≤ 1000000) (h : Heap) : ACalls Tryz.prog 120 [.string (bs l), .int .i64 10, .int .i64 0] h fun v h' => PU .i64 v ∧ h' = h := by
  refine acalls_of mix Tryz.func120 k120 n120 (by simp) fun hcl hb => ?_
  cases l with
  | nil =>
    simp [c120, bs_lit]
    exact PU.err _ _ (.inr rfl) (fun _ => rfl)
  | cons c r =>
    have hne : ¬ bs (c :: r) = bs [] := fun q => by have := bs_inj.1 q; cases this
    have hs : (bs (c :: r)).size = r.length + 1 := by rw [bs_size]; rfl
    have hd : (bs (c :: r)).data[0]? = some c := by
      have : (bs (c :: r)).data.toList[0]? = some c := by rw [bs_data]; rfl
      simpa using this
    have hd' : ∀ hh : 0 < (bs (c :: r)).data.size, (bs (c :: r)).data[0]'hh = c := fun hh => by have := hd; rw [Array.getElem?_eq_getElem hh] at this; exact Option.some.inj this
    have hi0 : aidx (.int .i64 0) (r.length + 1) = some 0 := aidx_of (i := 0) (by omega)
    have b1 : abounds (r.length + 1) (r.length + 1) (some (.int .i64 1)) none none = some (1, r.length + 1, r.length + 1) := abounds_lo (l := 1) (by omega) (by omega)
    have hx : (bs (c :: r)).extract 1 (r.length + 1) = bs r := by
      rw [bs_extract]
      simp
    have hrl : r.length ≤ 1000000 := by simp at hl; omega
    have m63 : min 63 IntKind.u64.bits = 63 := rfl
    have w63 : IntKind.u64.wrap (63 : Int) = 63 := rfl
    have w64 : IntKind.i64.wrap ((64 : Int) - 1) = 63 := rfl
    have w64' : IntKind.i64.wrap (63 : Int) = 63 := rfl
    have s63 := shl63
    have s63' : IntKind.u64.wrap (9223372036854775808 : Int) = 9223372036854775808 := by decide
    have tail : ∀ (neg : Bool) (v : Value), PU .u64 v → ∀ f : AF, True := fun _ _ _ _ => trivial
    by_cases c1 : c.toNat = 43
    · have c1' : ((c.toNat : Int) = 43) = True := eq_true (by omega)
      simp [c120, bs_lit, hne, hs, hd, hd', hi0, c1, c1', b1, hx]
      refine (puint_ok r hrl h).mono ?_
      rintro _ h9 ⟨⟨x, e, rfl, he, _⟩, e'⟩
      rw [e']; clear e' h9
      rcases he with rfl | ⟨q, rfl, rfl | rfl⟩
      all_goals by_cases q1 : (9223372036854775808 : Int) ≤ x
      all_goals simp [aeq, aun, m63, w63, w64, w64', s63, s63', q1]
      all_goals first | exact PU.err _ _ (.inl rfl) (fun _ => by first | rfl | decide | exact ww _) | exact PU.err _ _ (.inr rfl) (fun _ => by first | rfl | decide | exact ww _) | exact PU.nil _ (fun _ => by first | rfl | decide | exact ww _)
    · have c1' : ¬ (c.toNat : Int) = 43 := by omega
      by_cases c2 : c.toNat = 45
      · have c2' : ((c.toNat : Int) = 45) = True := eq_true (by omega)
        simp [c120, bs_lit, hne, hs, hd, hd', hi0, c1, c1', c2, c2', b1, hx]
        refine (puint_ok r hrl h).mono ?_
        rintro _ h9 ⟨⟨x, e, rfl, he, _⟩, e'⟩
        rw [e']; clear e' h9
        rcases he with rfl | ⟨q, rfl, rfl | rfl⟩
        all_goals by_cases q1 : (9223372036854775808 : Int) < x
        all_goals simp [aeq, aun, m63, w63, w64, w64', s63, s63', q1]
        all_goals first | exact PU.err _ _ (.inl rfl) (fun _ => by first | rfl | decide | exact ww _) | exact PU.err _ _ (.inr rfl) (fun _ => by first | rfl | decide | exact ww _) | exact PU.nil _ (fun _ => by first | rfl | decide | exact ww _)
      · have c2' : ¬ (c.toNat : Int) = 45 := by omega
        simp [c120, bs_lit, hne, hs, hd, hd', hi0, c1, c1', c2, c2']
        refine (puint_ok (c :: r) hl h).mono ?_
        rintro _ h9 ⟨⟨x, e, rfl, he, _⟩, e'⟩
        rw [e']; clear e' h9
        rcases he with rfl | ⟨q, rfl, rfl | rfl⟩
        all_goals by_cases q1 : (9223372036854775808 : Int) ≤ x
        all_goals simp [aeq, aun, m63, w63, w64, w64', s63, s63', q1]
        all_goals first | exact PU.err _ _ (.inl rfl) (fun _ => by first | rfl | decide | exact ww _) | exact PU.err _ _ (.inr rfl) (fun _ => by first | rfl | decide | exact ww _) | exact PU.nil _ (fun _ => by first | rfl | decide | exact ww _)

def c87_0 : AC := .seq (.ops [⟨some 50,none,.bin .lss (.tmp 49) (.tmp 48)⟩]) (.seq (.cond (.tmp 50) .skip (.exit 0)) (.seq (.block 1 (.seq (.ops [⟨some 51,none,.iAddrS 1 (.tmp 47) (.tmp 49)⟩,⟨some 52,none,.load none (.tmp 51)⟩,⟨some 8,none,.mv (.tmp 52)⟩]) (.seq (.ops [⟨some 53,none,.mv (.tmp 8)⟩,⟨some 54,none,.bin .sub (.tmp 53) (.const (.int .u8 48))⟩,⟨some 8,none,.mv (.tmp 54)⟩]) (.seq (.seq (.ops [⟨some 55,none,.mv (.tmp 8)⟩,⟨some 56,none,.bin .gtr (.tmp 55) (.const (.int .u8 9))⟩]) (.cond (.tmp 56) (.seq (.ops [⟨some 57,none,.mkI 174 (.const (.int .i64 2))⟩,⟨some 2,none,.mv (.const (.int .i64 0))⟩,⟨some 3,none,.mv (.tmp 57)⟩]) .ret) .skip)) (.ops [⟨some 58,none,.mv (.tmp 6)⟩,⟨some 59,none,.bin .mul (.tmp 58) (.const (.int .i64 10))⟩,⟨some 60,none,.mv (.tmp 8)⟩,⟨some 61,none,.toInt .i64 (.tmp 60)⟩,⟨some 62,none,.bin .add (.tmp 59) (.tmp 61)⟩,⟨some 6,none,.mv (.tmp 62)⟩]))))) (.ops [⟨some 63,none,.bin .add (.tmp 49) (.const (.int .i64 1))⟩,⟨some 49,none,.mv (.tmp 63)⟩])))
def c87 : AC := .seq (.ops [⟨some 2,none,.mv (.const (.int .i64 0))⟩,⟨some 3,none,.mv (.const .nilIface)⟩]) (.seq (.ops [⟨some 11,none,.mv (.tmp 0)⟩,⟨some 12,none,.lenS true (.tmp 11)⟩,⟨some 4,none,.mv (.tmp 12)⟩]) (.seq (.seq (.ops [⟨some 13,none,.mv (.const (.bool false))⟩,⟨some 14,some (13,true),.mv (.tmp 4)⟩,⟨some 15,some (13,true),.bin .lss (.const (.int .i64 0)) (.tmp 14)⟩,⟨some 16,some (13,true),.mv (.tmp 15)⟩,⟨some 17,some (16,true),.mv (.tmp 4)⟩,⟨some 18,some (16,true),.bin .lss (.tmp 17) (.const (.int .i64 10))⟩,⟨some 19,some (13,true),.pick (.tmp 16) (.tmp 18) (.const (.bool false))⟩,⟨some 20,none,.pick (.tmp 13) (.tmp 19) (.const (.bool false))⟩,⟨some 21,none,.mv (.tmp 20)⟩,⟨some 22,some (21,false),.mv (.const (.bool true))⟩,⟨some 23,some (22,true),.mv (.tmp 4)⟩,⟨some 24,some (22,true),.bin .lss (.const (.int .i64 0)) (.tmp 23)⟩,⟨some 25,some (22,true),.mv (.tmp 24)⟩,⟨some 26,some (25,true),.mv (.tmp 4)⟩,⟨some 27,some (25,true),.bin .lss (.tmp 26) (.const (.int .i64 19))⟩,⟨some 28,some (22,true),.pick (.tmp 25) (.tmp 27) (.const (.bool false))⟩,⟨some 29,some (21,false),.pick (.tmp 22) (.tmp 28) (.const (.bool false))⟩,⟨some 30,none,.pick (.tmp 21) (.const (.bool true)) (.tmp 29)⟩]) (.cond (.tmp 30) (.seq (.ops [⟨some 31,none,.mv (.tmp 0)⟩,⟨some 5,none,.mv (.tmp 31)⟩]) (.seq (.seq (.ops [⟨some 32,none,.mv (.tmp 0)⟩,⟨some 33,none,.iStr (.tmp 32) (.const (.int .i64 0))⟩,⟨some 34,none,.bin .eql (.tmp 33) (.const (.int .u8 45))⟩,⟨some 35,none,.mv (.tmp 34)⟩,⟨some 36,some (35,false),.mv (.tmp 0)⟩,⟨some 37,some (35,false),.iStr (.tmp 36) (.const (.int .i64 0))⟩,⟨some 38,some (35,false),.bin .eql (.tmp 37) (.const (.int .u8 43))⟩,⟨some 39,none,.pick (.tmp 35) (.const (.bool true)) (.tmp 38)⟩]) (.cond (.tmp 39) (.seq (.ops [⟨some 40,none,.mv (.tmp 0)⟩,⟨some 41,none,.slS (.tmp 40) (some (.const (.int .i64 1))) none⟩,⟨some 0,none,.mv (.tmp 41)⟩]) (.seq (.ops [⟨some 42,none,.mv (.tmp 0)⟩,⟨some 43,none,.lenS true (.tmp 42)⟩,⟨some 44,none,.bin .lss (.tmp 43) (.const (.int .i64 1))⟩]) (.cond (.tmp 44) (.seq (.ops [⟨some 45,none,.mkI 174 (.const (.int .i64 2))⟩,⟨some 2,none,.mv (.const (.int .i64 0))⟩,⟨some 3,none,.mv (.tmp 45)⟩]) .ret) .skip))) .skip)) (.seq (.ops [⟨some 6,none,.mv (.const (.int .i64 0))⟩]) (.seq (.seq (.ops [⟨some 46,none,.mv (.tmp 0)⟩,⟨some 47,none,.toBytes 5 (.tmp 46)⟩,⟨some 48,none,.lenS false (.tmp 47)⟩,⟨some 49,none,.mv (.const (.int .i64 0))⟩]) (.block 0 (.loop c87_0))) (.seq (.seq (.ops [⟨some 64,none,.mv (.tmp 5)⟩,⟨some 65,none,.iStr (.tmp 64) (.const (.int .i64 0))⟩,⟨some 66,none,.bin .eql (.tmp 65) (.const (.int .u8 45))⟩]) (.cond (.tmp 66) (.ops [⟨some 67,none,.mv (.tmp 6)⟩,⟨some 68,none,.un .neg (.tmp 67)⟩,⟨some 6,none,.mv (.tmp 68)⟩]) .skip)) (.seq (.ops [⟨some 69,none,.mv (.tmp 6)⟩,⟨some 2,none,.mv (.tmp 69)⟩,⟨some 3,none,.mv (.const .nilIface)⟩]) .ret)))))) .skip)) (.seq (.ops [⟨some 71,none,.mv (.tmp 0)⟩,⟨some 72,none,.call 120 [.tmp 71,.const (.int .i64 10),.const (.int .i64 0)]⟩,⟨some 70,none,.mv (.tmp 72)⟩,⟨some 73,none,.extr (.tmp 70) 0⟩,⟨some 74,none,.extr (.tmp 70) 1⟩,⟨some 9,none,.mv (.tmp 73)⟩,⟨some 10,none,.mv (.tmp 74)⟩]) (.seq (.ops [⟨some 75,none,.mv (.tmp 9)⟩,⟨some 76,none,.mv (.tmp 10)⟩,⟨some 2,none,.mv (.tmp 75)⟩,⟨some 3,none,.mv (.tmp 76)⟩]) .ret))))
theorem k87 : compF Tryz.prog Tryz.f87 = some (c87, [2, 3]) := by kernel_rfl
theorem n87 : Tryz.f87.ntmps = 77 := by kernel_rfl
def c50 : AC := .seq (.ops [⟨some 2,none,.mv (.const (.int .i64 0))⟩,⟨some 3,none,.mv (.const .nilIface)⟩]) (.seq (.ops [⟨some 7,none,.mv (.tmp 0)⟩,⟨some 8,none,.call 87 [.tmp 7]⟩,⟨some 6,none,.mv (.tmp 8)⟩,⟨some 9,none,.extr (.tmp 6) 0⟩,⟨some 10,none,.extr (.tmp 6) 1⟩,⟨some 4,none,.mv (.tmp 9)⟩,⟨some 5,none,.mv (.tmp 10)⟩]) (.seq (.seq (.ops [⟨some 11,none,.mv (.tmp 5)⟩,⟨some 12,none,.eqv true .ifc (.tmp 11) (.const .nilIface)⟩]) (.cond (.tmp 12) (.seq (.ops [⟨some 13,none,.mv (.tmp 4)⟩,⟨some 14,none,.mv (.tmp 0)⟩,⟨some 15,none,.mv (.tmp 5)⟩,⟨some 16,none,.call 88 [.const (.string ⟨⟨[65,116,111,105]⟩⟩),.tmp 14,.const (.int .i64 0),.const (.int .i64 0),.tmp 15]⟩,⟨some 2,none,.mv (.tmp 13)⟩,⟨some 3,none,.mv (.tmp 16)⟩]) .ret) .skip)) (.seq (.ops [⟨some 17,none,.mv (.tmp 4)⟩,⟨some 2,none,.mv (.tmp 17)⟩,⟨some 3,none,.mv (.const .nilIface)⟩]) .ret)))
theorem k50 : compF Tryz.prog Tryz.f50 = some (c50, [2, 3]) := by kernel_rfl
theorem n50 : Tryz.f50.ntmps = 18 := by kernel_rfl
def isDig (c : UInt8) : Prop := 48 ≤ c.toNat ∧ c.toNat ≤ 57
def nval (l : List UInt8) : Nat := l.foldl (fun n c => 10 * n + (c.toNat - 48)) 0
theorem nval_app (l : List UInt8) (c : UInt8) : nval (l ++ [c]) = 10 * nval l + (c.toNat - 48) := by simp [nval]
theorem nval_take (l : List UInt8) (i : Nat) (h : i < l.length) : nval (l.take (i + 1)) = 10 * nval (l.take i) + (l[i].toNat - 48) := by rw [List.take_succ_eq_append_getElem h, nval_app]
theorem nval_lt (l : List UInt8) (hd : ∀ c ∈ l, isDig c) : ∀ i, i ≤ l.length → nval (l.take i) < 10 ^ i
  | 0, _ => by simp [nval]
  | i + 1, h => by
    have ih := nval_lt l hd i (by omega)
    have := hd l[i] (List.getElem_mem _)
    unfold isDig at this
    rw [nval_take l i (by omega), Nat.pow_succ]
    omega
theorem digN_dig : ∀ (k u : Nat), ∀ c ∈ digN k u, isDig c
  | 0, _, c, h => by cases h
  | k + 1, u, c, h => by
    rw [digN] at h
    rcases List.mem_append.1 h with h | h
    · exact digN_dig k _ c h
    · simp only [List.mem_singleton] at h
      subst h
      unfold isDig
      rw [UInt8.toNat_ofNat']
      omega
theorem nval_digN : ∀ (k u : Nat), u < 10 ^ k → nval (digN k u) = u
  | 0, u, h => by simp at h; subst h; rfl
  | k + 1, u, h => by
    rw [Nat.pow_succ] at h
    rw [digN, nval_app, nval_digN k (u / 10) (by omega), UInt8.toNat_ofNat']
    omega
theorem dec_ne (u : Nat) (hu : u < 2 ^ 64) : dec u ≠ [] := by
  intro q
  have := dec_len u
  rw [q] at this
  have := ndig_spec u hu
  simp at *
  omega
theorem dec_val (u : Nat) (hu : u < 2 ^ 64) : nval (dec u) = u := nval_digN _ _ (ndig_spec u hu).2.2
theorem dec_dig (u : Nat) : ∀ c ∈ dec u, isDig c := digN_dig _ _
theorem ndig_small {u k : Nat} (h : u < 10 ^ k) (h0 : 0 < k) (hk : k ≤ 20) : ndig u ≤ k := by
  obtain ⟨j, h1, h2, h3⟩ := ndig_ex k u hk h0 h
  rw [ndig_eq (by omega) h2 h3]
  omega
def RD (l : List UInt8) (v : Value) : Prop := ∀ m : Int, -100000000000000000 < m → m < 100000000000000000 → l = itoaB m → v = .tuple #[.int .i64 m, .nilIface]
theorem itoaB_len (m : Int) (h1 : -100000000000000000 < m) (h2 : m < 100000000000000000) : 1 ≤ (itoaB m).length ∧ (itoaB m).length ≤ 18 := by
  unfold itoaB
  split
  · have := ndig_small (u := m.natAbs) (k := 17) (by omega) (by omega) (by omega)
    rw [List.length_cons, dec_len]
    omega
  · have h3 := ndig_small (u := m.toNat) (k := 17) (by omega) (by omega) (by omega)
    have h4 := (ndig_spec m.toNat (by omega)).1
    rw [dec_len]
    omega
theorem itoaB_head {m : Int} {c : UInt8} {r : List UInt8} (h1 : -100000000000000000 < m) (h2 : m < 100000000000000000) (h : c :: r = itoaB m) :
    (c.toNat = 45 ∧ m < 0 ∧ r = dec m.natAbs) ∨ (isDig c ∧ 0 ≤ m ∧ c :: r = dec m.toNat) := by
  unfold itoaB at h
  split at h
  · rename_i hm
    obtain ⟨rfl, rfl⟩ := List.cons.inj h
    exact .inl ⟨rfl, hm, rfl⟩
  · rename_i hm
    exact .inr ⟨dec_dig m.toNat c (by rw [← h]; simp), by omega, h⟩
theorem u8sub (c : Nat) (h : c < 256) : (48 ≤ c ∧ c ≤ 57 → IntKind.u8.wrap ((c : Int) - 48) = ((c - 48 : Nat) : Int)) ∧ (¬ (48 ≤ c ∧ c ≤ 57) → (9 : Int) < IntKind.u8.wrap ((c : Int) - 48)) := by
  refine ⟨fun hd => ?_, fun hd => ?_⟩
  · unfold IntKind.wrap; simp [IntKind.bits, IntKind.signed]; omega
  · unfold IntKind.wrap; simp [IntKind.bits, IntKind.signed]; omega
theorem PU.zero2 : PU .i64 (.tuple #[.int .i64 0, .iface ET (.int .i64 2)]) := PU.err _ _ (.inr rfl) (fun _ => rfl)
theorem iatoi_ok (l : List UInt8) (hl : l.length ≤ 1000000) (h : Heap) : ACalls Tryz.prog 87 [.string (bs l)] h fun v h' => (PU .i64 v ∧ RD l v) ∧ h' = h := by
  refine ACalls.same' (R := fun v => PU .i64 v ∧ RD l v) (fun v hv => hv.1.below _) (acalls_of mix Tryz.func87 k87 n87 (by simp) fun hcl hb => ?_)
  have hss : (bs l).size = l.length := bs_size l
  by_cases hlen : 0 < l.length ∧ l.length < 19
  · obtain ⟨c, r, rfl⟩ : ∃ c r, l = c :: r := by cases l with | nil => simp at hlen | cons a b => exact ⟨a, b, rfl⟩
    have hrl : r.length < 18 := by simp at hlen; omega
    have hs : (bs (c :: r)).size = r.length + 1 := by rw [bs_size]; rfl
    have n1 : (0 : Int) < ((r.length + 1 : Nat) : Int) := by omega
    have n2 : ((r.length + 1 : Nat) : Int) < 19 := by omega
    have hd : (bs (c :: r)).data[0]? = some c := by
      have : (bs (c :: r)).data.toList[0]? = some c := by rw [bs_data]; rfl
      simpa using this
    have hd' : ∀ hh : 0 < (bs (c :: r)).data.size, (bs (c :: r)).data[0]'hh = c := fun hh => by have := hd; rw [Array.getElem?_eq_getElem hh] at this; exact Option.some.inj this
    have hi0 : aidx (.int .i64 0) (r.length + 1) = some 0 := aidx_of (i := 0) (by omega)
    have b1 : abounds (r.length + 1) (r.length + 1) (some (.int .i64 1)) none none = some (1, r.length + 1, r.length + 1) := abounds_lo (l := 1) (by omega) (by omega)
    have hx : (bs (c :: r)).extract 1 (r.length + 1) = bs r := by
      rw [bs_extract]
      simp
    simp only [c87, s_seq, s_ops]
    simp [hs, n1, n2, -Int.natCast_add]
    by_cases c1 : c.toNat = 45
    · have c1' : ((c.toNat : Int) = 45) = True := eq_true (by omega)
      have head : ∀ m : Int, -100000000000000000 < m → m < 100000000000000000 → c :: r = itoaB m → (∀ x ∈ r, isDig x) ∧ m = -((nval r : Nat) : Int) := fun m m1 m2 hm => by
        rcases itoaB_head m1 m2 hm with ⟨_, h2, rfl⟩ | ⟨h1, _, _⟩
        · exact ⟨dec_dig _, by rw [dec_val _ (by omega)]; omega⟩
        · unfold isDig at h1; omega
      by_cases hr0 : r = []
      · have hz : (r.length : Int) < 1 := by rw [hr0]; decide
        have hsr : (bs r).size = r.length := bs_size r
        simp [hs, hd, hd', hi0, c1, c1', b1, hx, hsr, hz]
        have hs0 : (bs []).size = 0 := rfl
        refine ⟨⟨PU.zero2, fun m m1 m2 hm => ?_⟩, Heap.Ext.refl h⟩
        rcases itoaB_head m1 m2 hm with ⟨_, h2, h3⟩ | ⟨h1, _, _⟩
        · exact absurd (h3.symm.trans hr0) (dec_ne _ (by omega))
        · unfold isDig at h1; omega
      · have hrp : 0 < r.length := by cases r with | nil => exact absurd rfl hr0 | cons a b => simp
        have hr1 : ¬ (r.length : Int) < 1 := by omega
        have hsr : (bs r).size = r.length := bs_size r
        have hr1' : ¬ r = [] := hr0
        have hszR : (bs r).size ≤ 1099511627776 := by rw [bs_size]; first | omega | (simp; omega)
        have hb2 : (List.map (fun b => Value.int .u8 (b.toNat : Int)) (bs r).data.toList) = ubs r := by rw [bs_data]; rfl
        have hRl : r.length ≤ 18 := by first | omega | (simp; omega)
        have hszR2 : r.length ≤ 1099511627776 := by omega
        have hszR3 : r.length + 1 ≤ 1099511627776 := by omega
        have hsR : (bs r).size = r.length := bs_size _
        simp [hs, hd, hd', hi0, c1, c1', b1, hx, hsr, hr1, hr1', hszR, hszR2, hszR3]
        rw [hb2]
        have hc1 : (h.push (.cells (ubs r) (.loose 5) 1)).Closed := closed_push hcl ubs_bel
        have hf1 := cellsOf_new h (ubs r) (.loose 5) 1
        have e1 := (Heap.Ext.refl h).push hcl (.cells (ubs r) (.loose 5) 1)
        try rw [hsR]
        refine awp_loop_of (α := Nat) (fun i => i ≤ r.length ∧ ∀ j (hj : j < r.length), j < i → isDig r[j])
          (fun i => [(5, .string (bs (c :: r))), (6, .int .i64 (nval (r.take i) : Nat)), (47, .slice (some ⟨h.n, 0, none⟩) r.length r.length), (48, .int .i64 r.length), (49, .int .i64 i)])
          (fun _ => h.push (.cells (ubs r) (.loose 5) 1)) (fun i => r.length - i) 0 ⟨Nat.zero_le _, fun j _ h => absurd h (by omega)⟩ ⟨Nat.le_succ _, Nat.le_refl _, fun _ _ e => e, hc1⟩
          (by simp [nval]; repeat' (first | exact .int | exact .bool | exact .string | exact vb_slice (Nat.lt_succ_self _) | rfl | apply And.intro)) ?_
        rintro i ⟨hi, hdg⟩
        by_cases hil : i < r.length
        · have hil' : (i : Int) < r.length := by omega
          have hg := ubs_get hil
          have hltu : i < (ubs r).length := by rw [ubs_len]; exact hil
          have hg' : (ubs r)[i] = .int .u8 (r[i].toNat : Int) := by rw [List.getElem?_eq_getElem hltu] at hg; exact Option.some.inj hg
          have hcb := r[i].toNat_lt
          have w4 : IntKind.i64.wrap ((i : Int) + 1) = ((i + 1 : Nat) : Int) := w1 i (by omega)
          have hu8 := u8sub r[i].toNat hcb
          by_cases hdig : 48 ≤ r[i].toNat ∧ r[i].toNat ≤ 57
          · have g1 := hu8.1 hdig
            have g2 : ¬ (9 : Int) < ((r[i].toNat - 48 : Nat) : Int) := by omega
            have hnt := nval_take r i hil
            have hall : ∀ x ∈ r.take i, isDig x := fun x hx => by
              obtain ⟨j, hj, rfl⟩ := List.mem_iff_getElem.1 hx
              rw [List.getElem_take]
              exact hdg j _ (by rw [List.length_take] at hj; omega)
            have hb := nval_lt (r.take i) hall i (by rw [List.length_take]; omega)
            rw [List.take_take, Nat.min_self] at hb
            have hp : 10 ^ i ≤ 10 ^ 17 := Nat.pow_le_pow_right (by omega) (by omega)
            have hp' : (10 : Nat) ^ 17 = 100000000000000000 := rfl
            have g3 : IntKind.i64.wrap ((r[i].toNat - 48 : Nat) : Int) = ((r[i].toNat - 48 : Nat) : Int) := i64w _ (by omega)
            have g4 : IntKind.i64.wrap (((nval (r.take i) : Nat) : Int) * 10) = ((10 * nval (r.take i) : Nat) : Int) := by rw [IntWalk.i64_in _ (by omega)]; omega
            have g5 : IntKind.i64.wrap (((10 * nval (r.take i) : Nat) : Int) + ((r[i].toNat - 48 : Nat) : Int)) = ((nval (r.take (i + 1)) : Nat) : Int) := by rw [hnt, IntWalk.i64_in _ (by omega)]; omega
            generalize hxx : r[i].toNat - 48 = X at *
            simp [c87_0, hil', aidx_of hil, hf1, apart, hltu, hg', g1, g2, g3, g4, g5, w4, -Int.natCast_add, -Int.natCast_mul]
            refine ⟨i + 1, by omega, ⟨by omega, fun j hj hj2 => ?_⟩, ⟨Nat.le_succ _, Nat.le_refl _, fun _ _ e => e, hc1⟩, by repeat' (first | exact .int | exact .bool | exact .string | exact vb_slice (Nat.lt_succ_self _) | rfl | apply And.intro)⟩
            by_cases hji : j = i
            · subst hji; exact hdig
            · exact hdg j hj (by omega)
          · have g1 := hu8.2 hdig
            simp [c87_0, hil', aidx_of hil, hf1, apart, hltu, hg', g1]
            refine ⟨⟨PU.zero2, fun m m1 m2 hm => ?_⟩, e1⟩
            exact absurd ((head m m1 m2 hm).1 r[i] (List.getElem_mem _)) hdig
        · have hie : i = r.length := by omega
          have hil' : ¬ (i : Int) < r.length := by omega
          subst hie
          rw [List.take_of_length_le (Nat.le_refl _)]
          have hlt64 : nval r < 1000000000000000000 := by
            have := nval_lt r (fun x hx => by obtain ⟨j, hj, rfl⟩ := List.mem_iff_getElem.1 hx; exact hdg j hj hj) r.length (Nat.le_refl _)
            rw [List.take_of_length_le (Nat.le_refl _)] at this
            exact Nat.lt_of_lt_of_le this (Nat.pow_le_pow_right (by omega) hRl)
          have hng : IntKind.i64.wrap (-((nval r : Nat) : Int)) = -((nval r : Nat) : Int) := IntWalk.i64_in _ (by omega)
          have hng' : IntKind.i64.wrap (0 - ((nval r : Nat) : Int)) = -((nval r : Nat) : Int) := by rw [Int.zero_sub]; exact hng
          simp [c87_0, hil', hs, hd, hd', hi0, aun, c1, c1', hng, hng', -Int.natCast_add]
          exact ⟨⟨PU.nil _ (fun _ => IntWalk.i64_in _ (by omega)), fun m m1 m2 hm => by rw [(head m m1 m2 hm).2]⟩, e1⟩
    · have c1' : ¬ (c.toNat : Int) = 45 := by omega
      by_cases c2 : c.toNat = 43
      · have c2' : ((c.toNat : Int) = 43) = True := eq_true (by omega)
        have head : ∀ m : Int, -100000000000000000 < m → m < 100000000000000000 → c :: r = itoaB m → (∀ x ∈ r, isDig x) ∧ m = ((nval r : Nat) : Int) := fun m m1 m2 hm => by
          rcases itoaB_head m1 m2 hm with ⟨h1, _, _⟩ | ⟨h1, _, _⟩
          · omega
          · unfold isDig at h1; omega
        by_cases hr0 : r = []
        · have hz : (r.length : Int) < 1 := by rw [hr0]; decide
          have hsr : (bs r).size = r.length := bs_size r
          simp [hs, hd, hd', hi0, c1, c1', c2, c2', b1, hx, hsr, hz]
          refine ⟨⟨PU.zero2, fun m m1 m2 hm => ?_⟩, Heap.Ext.refl h⟩
          rcases itoaB_head m1 m2 hm with ⟨h1, h2, h3⟩ | ⟨h1, _, _⟩
          · omega
          · unfold isDig at h1; omega
        · have hrp : 0 < r.length := by cases r with | nil => exact absurd rfl hr0 | cons a b => simp
          have hr1 : ¬ (r.length : Int) < 1 := by omega
          have hsr : (bs r).size = r.length := bs_size r
          have hr1' : ¬ r = [] := hr0
          have hszR : (bs r).size ≤ 1099511627776 := by rw [bs_size]; first | omega | (simp; omega)
          have hb2 : (List.map (fun b => Value.int .u8 (b.toNat : Int)) (bs r).data.toList) = ubs r := by rw [bs_data]; rfl
          have hRl : r.length ≤ 18 := by first | omega | (simp; omega)
          have hszR2 : r.length ≤ 1099511627776 := by omega
          have hszR3 : r.length + 1 ≤ 1099511627776 := by omega
          have hsR : (bs r).size = r.length := bs_size _
          simp [hs, hd, hd', hi0, c1, c1', c2, c2', b1, hx, hsr, hr1, hr1', hszR, hszR2, hszR3]
          rw [hb2]
          have hc1 : (h.push (.cells (ubs r) (.loose 5) 1)).Closed := closed_push hcl ubs_bel
          have hf1 := cellsOf_new h (ubs r) (.loose 5) 1
          have e1 := (Heap.Ext.refl h).push hcl (.cells (ubs r) (.loose 5) 1)
          try rw [hsR]
          refine awp_loop_of (α := Nat) (fun i => i ≤ r.length ∧ ∀ j (hj : j < r.length), j < i → isDig r[j])
            (fun i => [(5, .string (bs (c :: r))), (6, .int .i64 (nval (r.take i) : Nat)), (47, .slice (some ⟨h.n, 0, none⟩) r.length r.length), (48, .int .i64 r.length), (49, .int .i64 i)])
            (fun _ => h.push (.cells (ubs r) (.loose 5) 1)) (fun i => r.length - i) 0 ⟨Nat.zero_le _, fun j _ h => absurd h (by omega)⟩ ⟨Nat.le_succ _, Nat.le_refl _, fun _ _ e => e, hc1⟩
            (by simp [nval]; repeat' (first | exact .int | exact .bool | exact .string | exact vb_slice (Nat.lt_succ_self _) | rfl | apply And.intro)) ?_
          rintro i ⟨hi, hdg⟩
          by_cases hil : i < r.length
          · have hil' : (i : Int) < r.length := by omega
            have hg := ubs_get hil
            have hltu : i < (ubs r).length := by rw [ubs_len]; exact hil
            have hg' : (ubs r)[i] = .int .u8 (r[i].toNat : Int) := by rw [List.getElem?_eq_getElem hltu] at hg; exact Option.some.inj hg
            have hcb := r[i].toNat_lt
            have w4 : IntKind.i64.wrap ((i : Int) + 1) = ((i + 1 : Nat) : Int) := w1 i (by omega)
            have hu8 := u8sub r[i].toNat hcb
            by_cases hdig : 48 ≤ r[i].toNat ∧ r[i].toNat ≤ 57
            · have g1 := hu8.1 hdig
              have g2 : ¬ (9 : Int) < ((r[i].toNat - 48 : Nat) : Int) := by omega
              have hnt := nval_take r i hil
              have hall : ∀ x ∈ r.take i, isDig x := fun x hx => by
                obtain ⟨j, hj, rfl⟩ := List.mem_iff_getElem.1 hx
                rw [List.getElem_take]
                exact hdg j _ (by rw [List.length_take] at hj; omega)
              have hb := nval_lt (r.take i) hall i (by rw [List.length_take]; omega)
              rw [List.take_take, Nat.min_self] at hb
              have hp : 10 ^ i ≤ 10 ^ 17 := Nat.pow_le_pow_right (by omega) (by omega)
              have hp' : (10 : Nat) ^ 17 = 100000000000000000 := rfl
              have g3 : IntKind.i64.wrap ((r[i].toNat - 48 : Nat) : Int) = ((r[i].toNat - 48 : Nat) : Int) := i64w _ (by omega)
              have g4 : IntKind.i64.wrap (((nval (r.take i) : Nat) : Int) * 10) = ((10 * nval (r.take i) : Nat) : Int) := by rw [IntWalk.i64_in _ (by omega)]; omega
              have g5 : IntKind.i64.wrap (((10 * nval (r.take i) : Nat) : Int) + ((r[i].toNat - 48 : Nat) : Int)) = ((nval (r.take (i + 1)) : Nat) : Int) := by rw [hnt, IntWalk.i64_in _ (by omega)]; omega
              generalize hxx : r[i].toNat - 48 = X at *
              simp [c87_0, hil', aidx_of hil, hf1, apart, hltu, hg', g1, g2, g3, g4, g5, w4, -Int.natCast_add, -Int.natCast_mul]
              refine ⟨i + 1, by omega, ⟨by omega, fun j hj hj2 => ?_⟩, ⟨Nat.le_succ _, Nat.le_refl _, fun _ _ e => e, hc1⟩, by repeat' (first | exact .int | exact .bool | exact .string | exact vb_slice (Nat.lt_succ_self _) | rfl | apply And.intro)⟩
              by_cases hji : j = i
              · subst hji; exact hdig
              · exact hdg j hj (by omega)
            · have g1 := hu8.2 hdig
              simp [c87_0, hil', aidx_of hil, hf1, apart, hltu, hg', g1]
              refine ⟨⟨PU.zero2, fun m m1 m2 hm => ?_⟩, e1⟩
              exact absurd ((head m m1 m2 hm).1 r[i] (List.getElem_mem _)) hdig
          · have hie : i = r.length := by omega
            have hil' : ¬ (i : Int) < r.length := by omega
            subst hie
            rw [List.take_of_length_le (Nat.le_refl _)]
            have hlt64 : nval r < 1000000000000000000 := by
              have := nval_lt r (fun x hx => by obtain ⟨j, hj, rfl⟩ := List.mem_iff_getElem.1 hx; exact hdg j hj hj) r.length (Nat.le_refl _)
              rw [List.take_of_length_le (Nat.le_refl _)] at this
              exact Nat.lt_of_lt_of_le this (Nat.pow_le_pow_right (by omega) hRl)
            simp [c87_0, hil', hs, hd, hd', hi0, aun, c1, c1', c2, c2', -Int.natCast_add]
            exact ⟨⟨PU.nil _ (fun _ => IntWalk.i64_in _ (by omega)), fun m m1 m2 hm => by rw [(head m m1 m2 hm).2]⟩, e1⟩
      · have c2' : ¬ (c.toNat : Int) = 43 := by omega
        have head : ∀ m : Int, -100000000000000000 < m → m < 100000000000000000 → c :: r = itoaB m → (∀ x ∈ c :: r, isDig x) ∧ m = ((nval (c :: r) : Nat) : Int) := fun m m1 m2 hm => by
          rcases itoaB_head m1 m2 hm with ⟨h1, _, _⟩ | ⟨_, h2, h3⟩
          · omega
          · rw [h3]; exact ⟨dec_dig _, by rw [dec_val _ (by omega)]; omega⟩
        have hszR : (bs (c :: r)).size ≤ 1099511627776 := by rw [bs_size]; first | omega | (simp; omega)
        have hb2 : (List.map (fun b => Value.int .u8 (b.toNat : Int)) (bs (c :: r)).data.toList) = ubs (c :: r) := by rw [bs_data]; rfl
        have hRl : (c :: r).length ≤ 18 := by first | omega | (simp; omega)
        have hszR2 : r.length ≤ 1099511627776 := by omega
        have hszR3 : r.length + 1 ≤ 1099511627776 := by omega
        have hsR : (bs (c :: r)).size = (c :: r).length := bs_size _
        simp [hs, hd, hd', hi0, c1, c1', c2, c2', hszR, hszR2, hszR3]
        rw [hb2]
        obtain ⟨R, hR⟩ : ∃ R, R = c :: r := ⟨_, rfl⟩
        have hRlen : R.length = r.length + 1 := by rw [hR]; rfl
        rw [← hR] at hRl hsR hs hd hd' head ⊢
        rw [← hRlen] at hs hi0
        have hc1 : (h.push (.cells (ubs R) (.loose 5) 1)).Closed := closed_push hcl ubs_bel
        have hf1 := cellsOf_new h (ubs R) (.loose 5) 1
        have e1 := (Heap.Ext.refl h).push hcl (.cells (ubs R) (.loose 5) 1)
        try rw [hsR]
        refine awp_loop_of (α := Nat) (fun i => i ≤ R.length ∧ ∀ j (hj : j < R.length), j < i → isDig R[j])
          (fun i => [(5, .string (bs R)), (6, .int .i64 (nval (R.take i) : Nat)), (47, .slice (some ⟨h.n, 0, none⟩) R.length R.length), (48, .int .i64 R.length), (49, .int .i64 i)])
          (fun _ => h.push (.cells (ubs R) (.loose 5) 1)) (fun i => R.length - i) 0 ⟨Nat.zero_le _, fun j _ h => absurd h (by omega)⟩ ⟨Nat.le_succ _, Nat.le_refl _, fun _ _ e => e, hc1⟩
          (by simp [nval, hRlen]; repeat' (first | exact .int | exact .bool | exact .string | exact vb_slice (Nat.lt_succ_self _) | rfl | apply And.intro)) ?_
        rintro i ⟨hi, hdg⟩
        by_cases hil : i < R.length
        · have hil' : (i : Int) < R.length := by omega
          have hg := ubs_get hil
          have hltu : i < (ubs R).length := by rw [ubs_len]; exact hil
          have hg' : (ubs R)[i] = .int .u8 (R[i].toNat : Int) := by rw [List.getElem?_eq_getElem hltu] at hg; exact Option.some.inj hg
          have hcb := R[i].toNat_lt
          have w4 : IntKind.i64.wrap ((i : Int) + 1) = ((i + 1 : Nat) : Int) := w1 i (by omega)
          have hu8 := u8sub R[i].toNat hcb
          by_cases hdig : 48 ≤ R[i].toNat ∧ R[i].toNat ≤ 57
          · have g1 := hu8.1 hdig
            have g2 : ¬ (9 : Int) < ((R[i].toNat - 48 : Nat) : Int) := by omega
            have hnt := nval_take R i hil
            have hall : ∀ x ∈ R.take i, isDig x := fun x hx => by
              obtain ⟨j, hj, rfl⟩ := List.mem_iff_getElem.1 hx
              rw [List.getElem_take]
              exact hdg j _ (by rw [List.length_take] at hj; omega)
            have hb := nval_lt (R.take i) hall i (by rw [List.length_take]; omega)
            rw [List.take_take, Nat.min_self] at hb
            have hp : 10 ^ i ≤ 10 ^ 17 := Nat.pow_le_pow_right (by omega) (by omega)
            have hp' : (10 : Nat) ^ 17 = 100000000000000000 := rfl
            have g3 : IntKind.i64.wrap ((R[i].toNat - 48 : Nat) : Int) = ((R[i].toNat - 48 : Nat) : Int) := i64w _ (by omega)
            have g4 : IntKind.i64.wrap (((nval (R.take i) : Nat) : Int) * 10) = ((10 * nval (R.take i) : Nat) : Int) := by rw [IntWalk.i64_in _ (by omega)]; omega
            have g5 : IntKind.i64.wrap (((10 * nval (R.take i) : Nat) : Int) + ((R[i].toNat - 48 : Nat) : Int)) = ((nval (R.take (i + 1)) : Nat) : Int) := by rw [hnt, IntWalk.i64_in _ (by omega)]; omega
            generalize hxx : R[i].toNat - 48 = X at *
            simp [c87_0, hil', aidx_of hil, hf1, apart, hltu, hg', g1, g2, g3, g4, g5, w4, -Int.natCast_add, -Int.natCast_mul]
            refine ⟨i + 1, by omega, ⟨by omega, fun j hj hj2 => ?_⟩, ⟨Nat.le_succ _, Nat.le_refl _, fun _ _ e => e, hc1⟩, by repeat' (first | exact .int | exact .bool | exact .string | exact vb_slice (Nat.lt_succ_self _) | rfl | apply And.intro)⟩
            by_cases hji : j = i
            · subst hji; exact hdig
            · exact hdg j hj (by omega)
          · have g1 := hu8.2 hdig
            simp [c87_0, hil', aidx_of hil, hf1, apart, hltu, hg', g1]
            refine ⟨⟨PU.zero2, fun m m1 m2 hm => ?_⟩, e1⟩
            exact absurd ((head m m1 m2 hm).1 R[i] (List.getElem_mem _)) hdig
        · have hie : i = R.length := by omega
          have hil' : ¬ (i : Int) < R.length := by omega
          subst hie
          rw [List.take_of_length_le (Nat.le_refl _)]
          have hlt64 : nval R < 1000000000000000000 := by
            have := nval_lt R (fun x hx => by obtain ⟨j, hj, rfl⟩ := List.mem_iff_getElem.1 hx; exact hdg j hj hj) R.length (Nat.le_refl _)
            rw [List.take_of_length_le (Nat.le_refl _)] at this
            exact Nat.lt_of_lt_of_le this (Nat.pow_le_pow_right (by omega) hRl)
          simp [c87_0, hil', hs, hd, hd', hi0, aun, c1, c1', c2, c2', -Int.natCast_add]
          exact ⟨⟨PU.nil _ (fun _ => IntWalk.i64_in _ (by omega)), fun m m1 m2 hm => by rw [(head m m1 m2 hm).2]⟩, e1⟩
  · have slow : ∀ m : Int, -100000000000000000 < m → m < 100000000000000000 → l ≠ itoaB m := fun m m1 m2 hm => by
      have := itoaB_len m m1 m2
      rw [← hm] at this
      omega
    have fin : ∀ (h' : Heap) v, PU .i64 v → h' = h → (PU .i64 v ∧ RD l v) ∧ h.Ext h' := fun h' v hv e => by
      subst e
      exact ⟨⟨hv, fun m m1 m2 hm => absurd hm (slow m m1 m2)⟩, Heap.Ext.refl _⟩
    by_cases hl0 : l = []
    · subst hl0
      have hs0 : (bs []).size = 0 := rfl
      simp [c87, hs0]
      refine (pint_ok [] hl h).mono ?_
      rintro _ h9 ⟨⟨x, e, rfl, he, hx⟩, e'⟩
      simp
      exact fin _ _ ⟨x, e, rfl, he, hx⟩ e'
    · have hlp : 0 < l.length := by cases l with | nil => exact absurd rfl hl0 | cons a b => simp
      have n1 : (0 : Int) < (l.length : Int) := by omega
      have n2 : ¬ (l.length : Int) < 19 := by omega
      simp [c87, hss, n1, n2, hlp, hl0]
      refine (pint_ok l hl h).mono ?_
      rintro _ h9 ⟨⟨x, e, rfl, he, hx⟩, e'⟩
      simp
      exact fin _ _ ⟨x, e, rfl, he, hx⟩ e'
def AT (l : List UInt8) (v : Value) : Prop := (∃ x e, v = .tuple #[.int .i64 x, e] ∧ (e = .nilIface ∨ e = .iface NT unk) ∧ IntKind.i64.wrap x = x) ∧ RD l v
theorem atoi_ok (l : List UInt8) (hl : l.length ≤ 1000000) (h : Heap) : ACalls Tryz.prog 50 [.string (bs l)] h fun v h' => AT l v ∧ h' = h := by
  refine acalls_of mix Tryz.func50 k50 n50 (by simp) fun hcl hb => ?_
  simp [c50]
  refine (iatoi_ok l hl h).mono ?_
  rintro _ h9 ⟨⟨⟨x, e, rfl, he, hx⟩, hrd⟩, e'⟩
  rw [e']; clear e' h9
  rcases he with rfl | ⟨q, rfl, hq⟩
  · simp [aeq]
    exact ⟨⟨x, _, rfl, .inl rfl, hx rfl⟩, hrd⟩
  · simp [aeq]
    refine (toErr_ok [65, 116, 111, 105] l q hq hl h).mono ?_
    rintro _ h9 ⟨rfl, rfl⟩
    simp
    refine ⟨⟨x, _, rfl, .inr rfl, hx rfl⟩, fun m m1 m2 hm => ?_⟩
    have := hrd m m1 m2 hm
    simp at this

def vOk (a b c : Int) : Prop := (0 ≤ a ∧ a ≤ 65535) ∧ (0 ≤ b ∧ b ≤ 65535) ∧ (0 ≤ c ∧ c ≤ 65535)
instance (a b c : Int) : Decidable (vOk a b c) := by unfold vOk; infer_instance
def d10 : List UInt8 := [48, 49, 50, 51, 52, 53, 54, 55, 56, 57]
def dgt (k : Nat) : UInt8 := UInt8.ofNat (48 + k)
theorem cut10 (k : Nat) (h : k < 10) : (d10.take (k + 1)).drop k = [dgt k] := by
  have : ∀ j : Fin 10, (d10.take (j.val + 1)).drop j.val = [dgt j.val] := by decide
  exact this ⟨k, h⟩
theorem digN_one (u : Nat) : digN 1 u = [dgt (u % 10)] := rfl
structure DS where
  k : Nat
  u : Nat
end Go.Proofs.YtofoihlcjmghfaaGreatDoor.vers

