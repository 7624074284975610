/-
  Contracts.
-/
import Derived.Test.YtpcnpnddkgdaeaaDoorVers
import Derived.Test.YtpcnpnddkgdaeaaDoorStr
import Derived.Test.YtpcnpnddkgdaeaaDoorAbEnter
import Derived.Test.YtpcnpnddkgdaeaaDoorAbStep
import Derived.Test.YtpcnpnddkgdaeaaDoorProg
import Derived.IntWalk
import Derived.KernelRfl
set_option linter.unusedSimpArgs false
set_option linter.unusedVariables false
set_option linter.unusedSectionVars false
namespace Go.Proofs.YtpcnpnddkgdaeaaDoor.lins
open Go Go.Ab Go.Proofs Go.RowKit Go.Proofs.YtpcnpnddkgdaeaaDoor.str Go.Proofs.YtpcnpnddkgdaeaaDoor.vers
variable [Inhabited TabBox]
variable [Nonempty GF]
set_option maxRecDepth 100000
attribute [local simp] s_ops s_seq s_cond s_cond_t s_cond_f s_block s_exit s_ret s_skip s_then_n s_then_n' s_then_e s_then_e' s_then_r s_then_r' s_block_n s_block_r s_block_e s_post_r s_post_n s_res0 s_res1 s_res2 s_res3 s_res4 s_nil s_cons s_guard s_guard_tt s_guard_ff s_guard_tf s_guard_ft s_guard_u s_call s_kL s_put s_put0 s_set s_tmp s_const s_func s_glob s_init s_mkF s_mkF0 s_mv s_bin s_pick s_op aop oK_some oK_none bK_some bK_none b_add b_sub b_mul b_quo b_rem b_and b_or b_xor b_andNot b_shl b_shr b_eql b_neq b_lss b_leq b_gtr b_geq b_sadd b_seql b_sneq b_slss b_sleq b_sgtr b_sgeq s_draw s_drawT s_tK s_tT s_tF s_tB s_tR s_stage s_stage0 s_kW s_kR s_rc0 s_rc s_rcg rK_some rK_none rG_b rG_u s_callv s_callv_f s_nextM s_postR_r s_postR_n s_resA0 s_resAt s_resAc s_resC s_tup0 s_tup1 s_tup2 s_tup3
def c109 : AC := .seq (.ops [⟨ some 0, none, .mv (.const (.slice none 0 0)) ⟩]) (.seq (.ops [⟨ some 1, none, .buildS 16 [.string ⟨ ⟨[] ⟩ ⟩, .string ⟨ ⟨[] ⟩ ⟩, .string ⟨ ⟨[] ⟩ ⟩, .string ⟨ ⟨[] ⟩ ⟩, .string ⟨ ⟨[] ⟩ ⟩, .string ⟨ ⟨[] ⟩ ⟩, .string ⟨ ⟨[] ⟩ ⟩, .string ⟨ ⟨[] ⟩ ⟩, .string ⟨ ⟨[] ⟩ ⟩, .string ⟨ ⟨[] ⟩ ⟩, .string ⟨ ⟨[] ⟩ ⟩, .string ⟨ ⟨[] ⟩ ⟩, .string ⟨ ⟨[] ⟩ ⟩, .string ⟨ ⟨[] ⟩ ⟩, .string ⟨ ⟨[] ⟩ ⟩, .string ⟨ ⟨[] ⟩ ⟩] [(0, 1, .const (.string ⟨ ⟨[] ⟩ ⟩)), (1, 1, .const (.string ⟨ ⟨[66, 79, 79, 84] ⟩ ⟩)), (2, 1, .const (.string ⟨ ⟨[66, 69, 71, 73, 78] ⟩ ⟩)), (3, 1, .const (.string ⟨ ⟨[87, 82, 73, 84, 69, 32, 83] ⟩ ⟩)), (4, 1, .const (.string ⟨ ⟨[70, 73, 78, 73, 83, 72] ⟩ ⟩)), (5, 1, .const (.string ⟨ ⟨[65, 66, 79, 82, 84] ⟩ ⟩)), (6, 1, .const (.string ⟨ ⟨[84, 82, 89] ⟩ ⟩)), (7, 1, .const (.string ⟨ ⟨[67, 79, 78, 70, 73, 82, 77] ⟩ ⟩)), (8, 1, .const (.string ⟨ ⟨[82, 79, 76, 76, 66, 65, 67, 75] ⟩ ⟩)), (9, 1, .const (.string ⟨ ⟨[70, 65, 73, 76] ⟩ ⟩)), (10, 1, .const (.string ⟨ ⟨[80, 82, 79, 86, 73, 83, 73, 79, 78, 32, 65] ⟩ ⟩)), (11, 1, .const (.string ⟨ ⟨[67, 76, 69, 65, 82, 32, 65] ⟩ ⟩)), (12, 1, .const (.string ⟨ ⟨[83, 84, 69, 80] ⟩ ⟩)), (13, 1, .const (.string ⟨ ⟨[70, 85, 83, 69, 32, 65, 66, 77] ⟩ ⟩)), (14, 1, .const (.string ⟨ ⟨[80, 79, 87, 69, 82] ⟩ ⟩)), (15, 1, .const (.string ⟨ ⟨[82, 79, 84, 32, 65, 83] ⟩ ⟩))] ⟩, ⟨ some 0, none, .mv (.tmp 1) ⟩]) .ret)
theorem k109 : compF Tryd.prog Tryd.f109 = some (c109, [0]) := by kernel_rfl
theorem n109 : Tryd.f109.ntmps = 2 := by kernel_rfl
def c62 : AC := .seq (.ops [⟨ some 0, none, .mv (.const (.slice none 0 0)) ⟩]) (.seq (.ops [⟨ some 1, none, .buildS 16 [.string ⟨ ⟨[] ⟩ ⟩, .string ⟨ ⟨[] ⟩ ⟩, .string ⟨ ⟨[] ⟩ ⟩, .string ⟨ ⟨[] ⟩ ⟩, .string ⟨ ⟨[] ⟩ ⟩, .string ⟨ ⟨[] ⟩ ⟩, .string ⟨ ⟨[] ⟩ ⟩, .string ⟨ ⟨[] ⟩ ⟩, .string ⟨ ⟨[] ⟩ ⟩, .string ⟨ ⟨[] ⟩ ⟩, .string ⟨ ⟨[] ⟩ ⟩, .string ⟨ ⟨[] ⟩ ⟩, .string ⟨ ⟨[] ⟩ ⟩, .string ⟨ ⟨[] ⟩ ⟩, .string ⟨ ⟨[] ⟩ ⟩, .string ⟨ ⟨[] ⟩ ⟩] [(0, 1, .const (.string ⟨ ⟨[] ⟩ ⟩)), (1, 1, .const (.string ⟨ ⟨[66, 79, 79, 84] ⟩ ⟩)), (2, 1, .const (.string ⟨ ⟨[66, 69, 71, 73, 78] ⟩ ⟩)), (3, 1, .const (.string ⟨ ⟨[87, 82, 73, 84, 69] ⟩ ⟩)), (4, 1, .const (.string ⟨ ⟨[70, 73, 78, 73, 83, 72] ⟩ ⟩)), (5, 1, .const (.string ⟨ ⟨[65, 66, 79, 82, 84] ⟩ ⟩)), (6, 1, .const (.string ⟨ ⟨[84, 82, 89] ⟩ ⟩)), (7, 1, .const (.string ⟨ ⟨[67, 79, 78, 70, 73, 82, 77] ⟩ ⟩)), (8, 1, .const (.string ⟨ ⟨[82, 79, 76, 76, 66, 65, 67, 75] ⟩ ⟩)), (9, 1, .const (.string ⟨ ⟨[70, 65, 73, 76] ⟩ ⟩)), (10, 1, .const (.string ⟨ ⟨[80, 82, 79, 86, 73, 83, 73, 79, 78] ⟩ ⟩)), (11, 1, .const (.string ⟨ ⟨[67, 76, 69, 65, 82] ⟩ ⟩)), (12, 1, .const (.string ⟨ ⟨[83, 84, 69, 80] ⟩ ⟩)), (13, 1, .const (.string ⟨ ⟨[70, 85, 83, 69] ⟩ ⟩)), (14, 1, .const (.string ⟨ ⟨[80, 79, 87, 69, 82] ⟩ ⟩)), (15, 1, .const (.string ⟨ ⟨[82, 79, 84] ⟩ ⟩))] ⟩, ⟨ some 0, none, .mv (.tmp 1) ⟩]) .ret)
theorem k62 : compF Tryd.prog Tryd.f62 = some (c62, [0]) := by kernel_rfl
theorem n62 : Tryd.f62.ntmps = 2 := by kernel_rfl
def c91 : AC := .seq (.ops [⟨ some 4, none, .mv (.const (.string ⟨ ⟨[] ⟩ ⟩)) ⟩, ⟨ some 5, none, .mv (.const (.string ⟨ ⟨[] ⟩ ⟩)) ⟩, ⟨ some 6, none, .mv (.const (.bool false)) ⟩]) (.seq (.seq (.ops [⟨ some 8, none, .mv (.tmp 0) ⟩, ⟨ some 9, none, .mv (.tmp 1) ⟩, ⟨ some 10, none, .call 111 [.tmp 8, .tmp 9] ⟩, ⟨ some 7, none, .mv (.tmp 10) ⟩]) (.seq (.ops [⟨ some 11, none, .mv (.tmp 7) ⟩, ⟨ some 12, none, .bin .geq (.tmp 11) (.const (.int .i64 0)) ⟩]) (.cond (.tmp 12) (.seq (.draw [([⟨ some 13, none, .mv (.tmp 0) ⟩, ⟨ some 14, none, .mv (.tmp 7) ⟩, ⟨ some 15, none, .slS (.tmp 13) none (some (.tmp 14)) ⟩, ⟨ some 16, none, .mv (.tmp 0) ⟩, ⟨ some 17, none, .mv (.tmp 7) ⟩, ⟨ some 18, none, .mv (.tmp 1) ⟩, ⟨ some 19, none, .lenS true (.tmp 18) ⟩, ⟨ some 20, none, .bin .add (.tmp 17) (.tmp 19) ⟩, ⟨ some 21, none, .slS (.tmp 16) (some (.tmp 20)) none ⟩, ⟨ some 4, none, .mv (.tmp 15) ⟩, ⟨ some 5, none, .mv (.tmp 21) ⟩, ⟨ some 6, none, .mv (.const (.bool true)) ⟩], [], [])]) .ret) .skip))) (.seq (.ops [⟨ some 22, none, .mv (.tmp 0) ⟩, ⟨ some 4, none, .mv (.tmp 22) ⟩, ⟨ some 5, none, .mv (.const (.string ⟨ ⟨[] ⟩ ⟩)) ⟩, ⟨ some 6, none, .mv (.const (.bool false)) ⟩]) .ret))
theorem k91 : compF Tryd.prog Tryd.f91 = some (c91, [4, 5, 6]) := by kernel_rfl
theorem n91 : Tryd.f91.ntmps = 23 := by kernel_rfl
def c66 : AC := .seq (.ops [⟨ some 4, none, .mv (.const (.string ⟨ ⟨[] ⟩ ⟩)) ⟩, ⟨ some 5, none, .mv (.const (.string ⟨ ⟨[] ⟩ ⟩)) ⟩, ⟨ some 6, none, .mv (.const (.bool false)) ⟩]) (.seq (.ops [⟨ some 7, none, .mv (.tmp 0) ⟩, ⟨ some 8, none, .mv (.tmp 1) ⟩, ⟨ some 9, none, .call 91 [.tmp 7, .tmp 8] ⟩, ⟨ some 10, none, .extr (.tmp 9) 0 ⟩, ⟨ some 11, none, .extr (.tmp 9) 1 ⟩, ⟨ some 12, none, .extr (.tmp 9) 2 ⟩, ⟨ some 4, none, .mv (.tmp 10) ⟩, ⟨ some 5, none, .mv (.tmp 11) ⟩, ⟨ some 6, none, .mv (.tmp 12) ⟩]) .ret)
theorem k66 : compF Tryd.prog Tryd.f66 = some (c66, [4, 5, 6]) := by kernel_rfl
theorem n66 : Tryd.f66.ntmps = 13 := by kernel_rfl
def c87 : AC := .seq (.ops [⟨ some 2, none, .mv (.const (.string ⟨ ⟨[] ⟩ ⟩)) ⟩, ⟨ some 3, none, .mv (.const (.string ⟨ ⟨[] ⟩ ⟩)) ⟩]) (.seq (.ops [⟨ some 8, none, .call 109 [] ⟩, ⟨ some 4, none, .mv (.tmp 8) ⟩]) (.seq (.seq (.ops [⟨ some 9, none, .mv (.tmp 0) ⟩, ⟨ some 10, none, .bin .lss (.tmp 9) (.const (.int .i64 1)) ⟩, ⟨ some 11, none, .mv (.tmp 10) ⟩, ⟨ some 12, some (11, false), .mv (.tmp 0) ⟩, ⟨ some 13, some (11, false), .mv (.tmp 4) ⟩, ⟨ some 14, some (11, false), .lenS false (.tmp 13) ⟩, ⟨ some 15, some (11, false), .bin .geq (.tmp 12) (.tmp 14) ⟩, ⟨ some 16, none, .pick (.tmp 11) (.const (.bool true)) (.tmp 15) ⟩]) (.cond (.tmp 16) (.seq (.ops [⟨ some 2, none, .mv (.const (.string ⟨ ⟨[] ⟩ ⟩)) ⟩, ⟨ some 3, none, .mv (.const (.string ⟨ ⟨[] ⟩ ⟩)) ⟩]) .ret) .skip)) (.seq (.ops [⟨ some 18, none, .mv (.tmp 4) ⟩, ⟨ some 19, none, .mv (.tmp 0) ⟩, ⟨ some 20, none, .iAddrS 1 (.tmp 18) (.tmp 19) ⟩, ⟨ some 21, none, .load none (.tmp 20) ⟩, ⟨ some 22, none, .call 66 [.tmp 21, .const (.string ⟨ ⟨[32] ⟩ ⟩)] ⟩, ⟨ some 17, none, .mv (.tmp 22) ⟩, ⟨ some 23, none, .extr (.tmp 17) 0 ⟩, ⟨ some 24, none, .extr (.tmp 17) 1 ⟩, ⟨ some 25, none, .extr (.tmp 17) 2 ⟩, ⟨ some 5, none, .mv (.tmp 23) ⟩, ⟨ some 6, none, .mv (.tmp 24) ⟩, ⟨ some 7, none, .mv (.tmp 25) ⟩]) (.seq (.ops [⟨ some 26, none, .mv (.tmp 5) ⟩, ⟨ some 27, none, .mv (.tmp 6) ⟩, ⟨ some 2, none, .mv (.tmp 26) ⟩, ⟨ some 3, none, .mv (.tmp 27) ⟩]) .ret))))
theorem k87 : compF Tryd.prog Tryd.f87 = some (c87, [2, 3]) := by kernel_rfl
theorem n87 : Tryd.f87.ntmps = 28 := by kernel_rfl
/-! kinds' names, and letters; a cut at a byte -/
def formsL : List (List UInt8) := [[], [66, 79, 79, 84], [66, 69, 71, 73, 78], [87, 82, 73, 84, 69, 32, 83], [70, 73, 78, 73, 83, 72], [65, 66, 79, 82, 84], [84, 82, 89], [67, 79, 78, 70, 73, 82, 77], [82, 79, 76, 76, 66, 65, 67, 75], [70, 65, 73, 76], [80, 82, 79, 86, 73, 83, 73, 79, 78, 32, 65], [67, 76, 69, 65, 82, 32, 65], [83, 84, 69, 80], [70, 85, 83, 69, 32, 65, 66, 77], [80, 79, 87, 69, 82], [82, 79, 84, 32, 65, 83]]
def namesL : List (List UInt8) := [[], [66, 79, 79, 84], [66, 69, 71, 73, 78], [87, 82, 73, 84, 69], [70, 73, 78, 73, 83, 72], [65, 66, 79, 82, 84], [84, 82, 89], [67, 79, 78, 70, 73, 82, 77], [82, 79, 76, 76, 66, 65, 67, 75], [70, 65, 73, 76], [80, 82, 79, 86, 73, 83, 73, 79, 78], [67, 76, 69, 65, 82], [83, 84, 69, 80], [70, 85, 83, 69], [80, 79, 87, 69, 82], [82, 79, 84]]
def lettersL : List (List UInt8) := [[], [], [], [83], [], [], [], [], [], [], [65], [65], [], [65, 66, 77], [], [65, 83]]
theorem forms_ok (h : Heap) : ACalls Tryd.prog 109 [] h fun v h' => v = .slice (some ⟨h.n, 0, none⟩) 16 16 ∧ h' = h.push (.cells (formsL.map sv) .ex 1) := by
  refine acalls_of mix Tryd.func109 k109 n109 (by simp) fun hcl hb => ?_
  have fil : afill [.string ⟨⟨[]⟩⟩, .string ⟨⟨[]⟩⟩, .string ⟨⟨[]⟩⟩, .string ⟨⟨[]⟩⟩, .string ⟨⟨[]⟩⟩, .string ⟨⟨[]⟩⟩, .string ⟨⟨[]⟩⟩, .string ⟨⟨[]⟩⟩, .string ⟨⟨[]⟩⟩, .string ⟨⟨[]⟩⟩, .string ⟨⟨[]⟩⟩, .string ⟨⟨[]⟩⟩, .string ⟨⟨[]⟩⟩, .string ⟨⟨[]⟩⟩, .string ⟨⟨[]⟩⟩, .string ⟨⟨[]⟩⟩] [(0, 1, .string ⟨⟨[]⟩⟩), (1, 1, .string ⟨⟨[66, 79, 79, 84]⟩⟩), (2, 1, .string ⟨⟨[66, 69, 71, 73, 78]⟩⟩), (3, 1, .string ⟨⟨[87, 82, 73, 84, 69, 32, 83]⟩⟩), (4, 1, .string ⟨⟨[70, 73, 78, 73, 83, 72]⟩⟩), (5, 1, .string ⟨⟨[65, 66, 79, 82, 84]⟩⟩), (6, 1, .string ⟨⟨[84, 82, 89]⟩⟩), (7, 1, .string ⟨⟨[67, 79, 78, 70, 73, 82, 77]⟩⟩), (8, 1, .string ⟨⟨[82, 79, 76, 76, 66, 65, 67, 75]⟩⟩), (9, 1, .string ⟨⟨[70, 65, 73, 76]⟩⟩), (10, 1, .string ⟨⟨[80, 82, 79, 86, 73, 83, 73, 79, 78, 32, 65]⟩⟩), (11, 1, .string ⟨⟨[67, 76, 69, 65, 82, 32, 65]⟩⟩), (12, 1, .string ⟨⟨[83, 84, 69, 80]⟩⟩), (13, 1, .string ⟨⟨[70, 85, 83, 69, 32, 65, 66, 77]⟩⟩), (14, 1, .string ⟨⟨[80, 79, 87, 69, 82]⟩⟩), (15, 1, .string ⟨⟨[82, 79, 84, 32, 65, 83]⟩⟩)] = some (formsL.map sv) := rfl
  simp [c109, fil]
theorem names_ok (h : Heap) : ACalls Tryd.prog 62 [] h fun v h' => v = .slice (some ⟨h.n, 0, none⟩) 16 16 ∧ h' = h.push (.cells (namesL.map sv) .ex 1) := by
  refine acalls_of mix Tryd.func62 k62 n62 (by simp) fun hcl hb => ?_
  have fil : afill [.string ⟨⟨[]⟩⟩, .string ⟨⟨[]⟩⟩, .string ⟨⟨[]⟩⟩, .string ⟨⟨[]⟩⟩, .string ⟨⟨[]⟩⟩, .string ⟨⟨[]⟩⟩, .string ⟨⟨[]⟩⟩, .string ⟨⟨[]⟩⟩, .string ⟨⟨[]⟩⟩, .string ⟨⟨[]⟩⟩, .string ⟨⟨[]⟩⟩, .string ⟨⟨[]⟩⟩, .string ⟨⟨[]⟩⟩, .string ⟨⟨[]⟩⟩, .string ⟨⟨[]⟩⟩, .string ⟨⟨[]⟩⟩] [(0, 1, .string ⟨⟨[]⟩⟩), (1, 1, .string ⟨⟨[66, 79, 79, 84]⟩⟩), (2, 1, .string ⟨⟨[66, 69, 71, 73, 78]⟩⟩), (3, 1, .string ⟨⟨[87, 82, 73, 84, 69]⟩⟩), (4, 1, .string ⟨⟨[70, 73, 78, 73, 83, 72]⟩⟩), (5, 1, .string ⟨⟨[65, 66, 79, 82, 84]⟩⟩), (6, 1, .string ⟨⟨[84, 82, 89]⟩⟩), (7, 1, .string ⟨⟨[67, 79, 78, 70, 73, 82, 77]⟩⟩), (8, 1, .string ⟨⟨[82, 79, 76, 76, 66, 65, 67, 75]⟩⟩), (9, 1, .string ⟨⟨[70, 65, 73, 76]⟩⟩), (10, 1, .string ⟨⟨[80, 82, 79, 86, 73, 83, 73, 79, 78]⟩⟩), (11, 1, .string ⟨⟨[67, 76, 69, 65, 82]⟩⟩), (12, 1, .string ⟨⟨[83, 84, 69, 80]⟩⟩), (13, 1, .string ⟨⟨[70, 85, 83, 69]⟩⟩), (14, 1, .string ⟨⟨[80, 79, 87, 69, 82]⟩⟩), (15, 1, .string ⟨⟨[82, 79, 84]⟩⟩)] = some (namesL.map sv) := rfl
  simp [c62, fil]

def cutB (c : UInt8) (l : List UInt8) : List UInt8 × List UInt8 × Bool := match idx1 c l with
  | some i => (l.take i, l.drop (i + 1), true)
  | none => (l, [], false)
theorem idxS1_ok (l : List UInt8) (c : UInt8) (h : Heap) : ACalls Tryd.prog 111 [.string (bs l), .string (bs [c])] h fun v h' => v = .int .i64 (match idx1 c l with | some i => (i : Int) | none => -1) ∧ h' = h := by
  refine acalls_of mix Tryd.func111 k111 n111 (by simp) fun hcl hb => ?_
  have hs1 : (bs [c]).size = 1 := rfl
  have hd1 : (bs [c]).data.toList = [c] := rfl
  have h0 : aidx (.int .i64 0) 1 = some 0 := rfl
  by_cases heq : bs [c] = bs l
  · have : l = [c] := (bs_inj.1 heq).symm
    subst this
    simp [c111, hs1, hd1, h0, idx1]
  · simp [c111, hs1, hd1, h0, heq]
    exact (iby_ok l c h).mono fun v h' q => by
      obtain ⟨rfl, rfl⟩ := q
      simp
      cases idx1 c l <;> rfl
theorem cut1_ok (l : List UInt8) (c : UInt8) (h : Heap) (hl : l.length ≤ 1000000) : ACalls Tryd.prog 66 [.string (bs l), .string (bs [c])] h fun v h' => v = .tuple #[sv (cutB c l).1, sv (cutB c l).2.1, .bool (cutB c l).2.2] ∧ h' = h := by
  refine acalls_of mix Tryd.func66 k66 n66 (by simp) fun hcl hb => ?_
  simp [c66]
  refine ACalls.mono (R := fun v h' => v = .tuple #[sv (cutB c l).1, sv (cutB c l).2.1, .bool (cutB c l).2.2] ∧ h' = h) ?_ ?_
  · refine acalls_of mix Tryd.func91 k91 n91 (by simp) fun hcl hb => ?_
    simp [c91]
    refine (idxS1_ok l c h).mono ?_
    rintro _ h9 ⟨rfl, e⟩
    rw [e]; clear e h9
    cases hx : idx1 c l with
    | none => simp [cutB, hx]; exact ⟨rfl, rfl⟩
    | some i =>
      obtain ⟨a, b, rfl, hca, rfl⟩ := idx1_some hx
      have hs1 : (bs [c]).size = 1 := rfl
      have q1 : IntKind.i64.wrap ((a.length : Int) + 1) = ((a.length + 1 : Nat) : Int) := w1 _ (by simp at hl; omega)
      have b1 : abounds (bs (a ++ c :: b)).size (bs (a ++ c :: b)).size none (some (.int .i64 (a.length : Int))) none = some (0, a.length, (bs (a ++ c :: b)).size) := abounds_hi (by rw [bs_size]; simp)
      have b2 : abounds (bs (a ++ c :: b)).size (bs (a ++ c :: b)).size (some (.int .i64 ((a.length + 1 : Nat) : Int))) none none = some (a.length + 1, (bs (a ++ c :: b)).size, (bs (a ++ c :: b)).size) := abounds_lo (by rw [bs_size]; simp) (Nat.le_refl _)
      have x1 : (bs (a ++ c :: b)).extract 0 a.length = bs a := by rw [bs_extract]; simp
      have x2 : (bs (a ++ c :: b)).extract (a.length + 1) (bs (a ++ c :: b)).size = bs b := by
        rw [bs_extract, bs_size, List.take_of_length_le (Nat.le_refl _), ← List.drop_drop]
        simp
      have k1 : cutB c (a ++ c :: b) = (a, b, true) := by
        unfold cutB
        rw [hx]
        dsimp only
        rw [List.take_left, ← List.drop_drop]
        simp
      simp [hs1, q1, b1, b2, x1, x2, k1, -Int.natCast_add]
      exact ⟨rfl, rfl⟩
  · rintro v h' ⟨rfl, rfl⟩
    simp
theorem formsL_len : formsL.length = 16 := rfl
/-- a kind's name, and its letters -/
def nmB (k : Int) : List UInt8 := if 1 ≤ k ∧ k ≤ 15 then namesL.getD k.toNat [] else []
def ltB (k : Int) : List UInt8 := if 1 ≤ k ∧ k ≤ 15 then lettersL.getD k.toNat [] else []
theorem form_ok (k : Int) (h : Heap) : ACalls Tryd.prog 87 [.int .i64 k] h fun v h' => v = .tuple #[sv (nmB k), sv (ltB k)] ∧ h' = h := by
  refine ACalls.same (vb_tup2 .string .string) (acalls_of mix Tryd.func87 k87 n87 (by simp) fun hcl hb => ?_)
  have e0 := (Heap.Ext.refl h).push hcl (.cells (formsL.map sv) .ex 1)
  have f0 := cellsOf_new h (formsL.map sv) .ex 1
  simp [c87]
  refine (forms_ok h).mono ?_
  rintro _ h9 ⟨rfl, e⟩
  rw [e]; clear e h9
  by_cases q0 : k < 1
  · have hk : ¬ (1 ≤ k ∧ k ≤ 15) := by omega
    simp [q0, nmB, ltB, hk]
    exact ⟨rfl, e0⟩
  · by_cases q1 : 16 ≤ k
    · have hk : ¬ (1 ≤ k ∧ k ≤ 15) := by omega
      simp [q0, q1, nmB, ltB, hk]
      exact ⟨rfl, e0⟩
    · have hk : 1 ≤ k ∧ k ≤ 15 := by omega
      obtain ⟨i, hi, rfl⟩ : ∃ i : Nat, i < 16 ∧ k = i := ⟨k.toNat, by omega, by omega⟩
      have hg : (formsL.map sv)[i]? = some (.string (bs (formsL.getD i []))) := by
        rw [List.getElem?_map, List.getElem?_eq_getElem (by rw [formsL_len]; exact hi)]
        have h1 : formsL.getD i [] = formsL[i]'(by rw [formsL_len]; exact hi) := by rw [List.getD, List.getElem?_eq_getElem (by rw [formsL_len]; exact hi)]; rfl
        rw [h1]; rfl
      have hcut : ∀ j : Fin 16, cutB 32 (formsL.getD j.val []) = (namesL.getD j.val [], lettersL.getD j.val [], (cutB 32 (formsL.getD j.val [])).2.2) ∧ (formsL.getD j.val []).length ≤ 1000000 := by decide
      obtain ⟨hc1, hc2⟩ := hcut ⟨i, hi⟩
      dsimp only at hc1 hc2
      simp [q0, q1, f0, aidx_of hi, apart, hg, bs_lit]
      refine (cut1_ok _ 32 _ hc2).mono ?_
      rintro _ h9 ⟨rfl, e⟩
      rw [e]; clear e h9
      rw [hc1]
      simp [nmB, ltB, hk]
      exact e0
def c69_0 : AC := .seq (.ops [⟨ some 12, none, .bin .lss (.tmp 11) (.tmp 10) ⟩]) (.seq (.cond (.tmp 12) .skip (.exit 0)) (.seq (.block 1 (.seq (.ops [⟨ some 13, none, .iAddrS 1 (.tmp 9) (.tmp 11) ⟩, ⟨ some 14, none, .load none (.tmp 13) ⟩, ⟨ some 5, none, .mv (.tmp 14) ⟩]) (.draw [([⟨ some 15, none, .mv (.tmp 3) ⟩, ⟨ some 16, none, .mv (.tmp 5) ⟩, ⟨ some 17, none, .bin .shr (.tmp 16) (.const (.int .u64 4)) ⟩, ⟨ some 18, none, .iStr (.const (.string ⟨ ⟨[48, 49, 50, 51, 52, 53, 54, 55, 56, 57, 97, 98, 99, 100, 101, 102] ⟩ ⟩)) (.tmp 17) ⟩, ⟨ some 19, none, .mv (.tmp 5) ⟩, ⟨ some 20, none, .bin .and (.tmp 19) (.const (.int .u8 15)) ⟩, ⟨ some 21, none, .iStr (.const (.string ⟨ ⟨[48, 49, 50, 51, 52, 53, 54, 55, 56, 57, 97, 98, 99, 100, 101, 102] ⟩ ⟩)) (.tmp 20) ⟩], [⟨ some 22, none, .buildS 2 [.int .u8 0, .int .u8 0] [(0, 1, .tmp 18), (1, 1, .tmp 21)] ⟩], []), ([], [⟨ some 23, none, .app 1 1 5 (.tmp 15) (.tmp 22) ⟩], []), ([], [⟨ some 3, none, .mv (.tmp 23) ⟩], []), ([], [], [])]))) (.ops [⟨ some 24, none, .bin .add (.tmp 11) (.const (.int .i64 1)) ⟩, ⟨ some 11, none, .mv (.tmp 24) ⟩])))
def c69 : AC := .seq (.ops [⟨ some 2, none, .mv (.const (.string ⟨ ⟨[] ⟩ ⟩)) ⟩]) (.seq (.ops [⟨ some 6, none, .buildS 1 [.int .u8 0] [(0, 1, .const (.int .u8 61))] ⟩, ⟨ some 7, none, .slId (.tmp 6) ⟩, ⟨ some 3, none, .mv (.tmp 7) ⟩]) (.seq (.seq (.ops [⟨ some 8, none, .mv (.tmp 0) ⟩, ⟨ some 9, none, .toBytes 5 (.tmp 8) ⟩, ⟨ some 10, none, .lenS false (.tmp 9) ⟩, ⟨ some 11, none, .mv (.const (.int .i64 0)) ⟩]) (.block 0 (.loop c69_0))) (.seq (.ops [⟨ some 25, none, .mv (.tmp 3) ⟩, ⟨ some 26, none, .toStr (.tmp 25) ⟩, ⟨ some 2, none, .mv (.tmp 26) ⟩]) .ret)))
theorem k69 : compF Tryd.prog Tryd.f69 = some (c69, [2]) := by kernel_rfl
theorem n69 : Tryd.f69.ntmps = 27 := by kernel_rfl
/-! lists that one appends to, among other blocks -/
def LAt (h : Heap) (esz : Nat) (nm : Option Nat) (v : Value) (n : Nat) (cells : List Value) : Prop :=
  (nm = none ∧ v = .slice none 0 0 ∧ n = 0 ∧ cells = []) ∨ ∃ x md e, nm = some x ∧ v = .slice (some ⟨x, 0, none⟩) n n ∧ h.cellsOf x = some (cells, md, e) ∧ cells.length = n * esz ∧ md ≠ .ro ∧ (md.isLoose = true → e = esz)
theorem LAt.form {h : Heap} {esz n : Nat} {nm : Option Nat} {v : Value} {cells : List Value} (l : LAt h esz nm v n cells) : ∃ a, v = .slice a n n := by
  rcases l with ⟨_, rfl, rfl, _⟩ | ⟨x, md, e, _, rfl, _⟩
  · exact ⟨none, rfl⟩
  · exact ⟨_, rfl⟩
theorem LAt.keep {h h' : Heap} {esz n : Nat} {nm : Option Nat} {v : Value} {cells : List Value} (l : LAt h esz nm v n cells) (hk : ∀ x, nm = some x → h'.m x = h.m x) : LAt h' esz nm v n cells := by
  rcases l with q | ⟨x, md, e, h1, h2, h3, h4⟩
  · exact .inl q
  · refine .inr ⟨x, md, e, h1, h2, ?_, h4⟩
    unfold Heap.cellsOf at h3 ⊢
    rw [hk x h1]; exact h3
theorem LAt.below {h : Heap} {esz n : Nat} {nm : Option Nat} {v : Value} {cells : List Value} (l : LAt h esz nm v n cells) (hc : h.Closed) : VBelow h.n v := by
  rcases l with ⟨_, rfl, _⟩ | ⟨x, md, e, _, rfl, h3, _⟩
  · exact .snil
  · exact .slice (cellsOf_lt hc h3)
theorem LAt.lt {h : Heap} {esz n x : Nat} {v : Value} {cells : List Value} (l : LAt h esz (some x) v n cells) (hc : h.Closed) : x < h.n := by
  rcases l with ⟨q, _⟩ | ⟨y, md, e, q, _, h3, _⟩
  · cases q
  · cases q; exact cellsOf_lt hc h3
theorem LAt.sl {α : Type} {enc : α → Value} {h : Heap} {n : Nat} {nm : Option Nat} {v : Value} {l : List α} (q : LAt h 1 nm v n (l.map enc)) : Sl enc h v l := by
  rcases q with ⟨_, rfl, rfl, h4⟩ | ⟨x, md, e, _, rfl, h3, h4, _⟩
  · exact .inl ⟨0, rfl, by simpa using h4⟩
  · have hl : l.length = n := by simpa using h4
    subst hl
    exact .inr ⟨x, 0, _, l.map enc, md, e, rfl, h3, Nat.le_refl _, fun _ => by simp, fun i hi => by simp [hi]⟩
theorem LAt.made (h : Heap) (esz : Nat) : LAt (h.push (.cells [] .ex 1)) esz (some h.n) (.slice (some ⟨h.n, 0, none⟩) 0 0) 0 [] :=
  .inr ⟨h.n, .ex, 1, rfl, rfl, cellsOf_new _ _ _ _, by simp, by decide, fun q => by cases q⟩
theorem lat_app {h : Heap} {t esz bytes n k : Nat} {nm : Option Nat} {v : Value} {cells new : List Value} (hc : h.Closed) (l : LAt h esz nm v n cells) (hk : 0 < k) (hnew : new.length = k * esz) (hb : ∀ x ∈ new, VBelow h.n x) (hsm : (n + k) * (bytes + 1) ≤ 1099511627776) :
    ∃ a, v = .slice a n n ∧ ∃ v2 H2, aapp h t esz bytes a n n new k = some (v2, H2) ∧ LAt H2 esz (some h.n) v2 (n + k) (cells ++ new) ∧ (∀ y ob, h.m y = some ob → nm ≠ some y → H2.m y = some ob) ∧ H2.n = h.n + 1 ∧ H2.Closed := by
  rcases l with ⟨rfl, rfl, rfl, rfl⟩ | ⟨x, md, e, rfl, rfl, hx, hcl, hro, hes⟩
  · refine ⟨none, rfl, .slice (some ⟨h.n, 0, none⟩) k k, h.push (.cells new (.loose t) esz), ?_, .inr ⟨h.n, .loose t, esz, rfl, by simp, by simpa using cellsOf_new h new (.loose t) esz, by simpa using hnew, by simp, fun _ => rfl⟩, fun y ob e _ => ?_, rfl, closed_push hc fun x hx => (hb x hx).mono (Nat.le_succ _)⟩
    · unfold aapp
      dsimp only
      rw [if_pos ⟨hsm, hnew⟩]
      simp [show k ≠ 0 by omega]
    · rw [push_m, if_neg (by have := (hc y ob e).1; omega)]; exact e
  · have hcut : acut cells 0 (n * esz) = some cells := by rw [← hcl]; exact acut_all cells
    have hxn := cellsOf_lt hc hx
    have hcb : ∀ v ∈ cells ++ new, VBelow (h.n + 1) v := fun v hv => by
      rcases List.mem_append.1 hv with q | q
      · exact ((hc x _ (m_of_cells hx)).2 v q).mono (Nat.le_succ _)
      · exact (hb v q).mono (Nat.le_succ _)
    have hlen : (cells ++ new).length = (n + k) * esz := by simp [hcl, hnew, Nat.add_mul]
    by_cases hl : md.isLoose = true
    · obtain rfl := hes hl
      have hgl : (md.grown t).isLoose = true := by unfold BMode.grown; split <;> (try split) <;> rfl
      refine ⟨some ⟨x, 0, none⟩, rfl, .slice (some ⟨h.n, 0, none⟩) (n + k) (n + k), (h.kill x).push (.cells (cells ++ new) (md.grown t) e), ?_,
        .inr ⟨h.n, md.grown t, e, rfl, rfl, cellsOf_new (h.kill x) _ _ _, hlen, (by intro q; rw [q] at hgl; cases hgl), fun _ => rfl⟩, fun y ob e hne => ?_, rfl, closed_push (fun y ob e => ?_) hcb⟩
      · unfold aapp
        dsimp only
        rw [if_pos ⟨hsm, hnew⟩, hx]
        simp only [if_true]
        rw [hcut]
        simp only [hl, if_true]
        rw [if_neg (by omega), if_pos (by omega)]
      · have hlt := (hc y ob e).1
        rw [push_m, if_neg (by show ¬ y = h.n; omega), kill_m, if_neg (fun q => hne (by rw [q]))]; exact e
      · rw [kill_m] at e
        split at e
        · cases e
        · exact hc y ob e
    · refine ⟨some ⟨x, 0, none⟩, rfl, .slice (some ⟨h.n, 0, none⟩) (n + k) (n + k), h.push (.cells (cells ++ new) (.loose t) esz), ?_,
        .inr ⟨h.n, .loose t, esz, rfl, rfl, cellsOf_new _ _ _ _, hlen, by simp, fun _ => rfl⟩, fun y ob e hne => ?_, rfl, closed_push hc hcb⟩
      · unfold aapp
        dsimp only
        rw [if_pos ⟨hsm, hnew⟩, hx]
        simp only [if_true]
        rw [hcut]
        simp only
        rw [if_neg hl, if_neg (by omega)]
      · have hlt := (hc y ob e).1
        rw [push_m, if_neg (by omega)]; exact e
structure Gr (h H : Heap) : Prop where
  n : h.n ≤ H.n
  cl : H.Closed
  m : ∀ y ob, h.m y = some ob → H.m y = some ob
theorem Gr.push {h H : Heap} (g : Gr h H) {o : AObj} (ho : o.Below (H.n + 1)) : Gr h (H.push o) :=
  ⟨Nat.le_succ_of_le g.n, closed_push g.cl ho, fun y ob e => by have q := g.m y ob e; rw [push_m, if_neg (by have := (g.cl y ob q).1; omega)]; exact q⟩
theorem Gr.sub {h H : Heap} (g : Gr h H) : H.Sub h.n H := ⟨g.n, Nat.le_refl _, fun _ _ e => e, g.cl⟩
theorem lat_bytes {H : Heap} {nm : Option Nat} {v : Value} {l : List UInt8} (hc : H.Closed) (q : LAt H 1 nm v l.length (ubs l)) (M : List UInt8) (hM : 0 < M.length) (hl : l.length + M.length ≤ 100000000) :
    ∃ a, v = .slice a l.length l.length ∧ ∃ v2 H2, aapp (H.push (.cells (ubs M) .ex 1)) 5 1 1 a l.length l.length (ubs M) M.length = some (v2, H2) ∧ LAt H2 1 (some (H.n + 1)) v2 (l ++ M).length (ubs (l ++ M)) ∧
      (∀ y ob, H.m y = some ob → nm ≠ some y → H2.m y = some ob) ∧ H2.n = H.n + 2 ∧ H2.Closed := by
  have l1 : LAt (H.push (.cells (ubs M) .ex 1)) 1 nm v l.length (ubs l) := q.keep fun y e => by
    subst e
    rw [push_m, if_neg (by have := q.lt hc; omega)]
  have hcp : (H.push (.cells (ubs M) .ex 1)).Closed := closed_push hc (o := .cells (ubs M) .ex 1) ubs_bel
  obtain ⟨a, q, v2, H2, happ, l2, keep2, n2, c2⟩ := lat_app (t := 5) (bytes := 1) (k := M.length) (new := ubs M) hcp l1 hM (by rw [ubs_len, Nat.mul_one]) ubs_bel (by omega)
  refine ⟨a, q, v2, H2, happ, ?_, fun y ob e hne => keep2 y ob (by rw [push_m, if_neg (by have := (hc y ob e).1; omega)]; exact e) hne, n2, c2⟩
  rw [ubs_app, List.length_append]; exact l2
/-! hex -/
def digs : List UInt8 := [48, 49, 50, 51, 52, 53, 54, 55, 56, 57, 97, 98, 99, 100, 101, 102]
def dg (k : Nat) : UInt8 := digs.getD k 0
def hexB (D : List UInt8) : List UInt8 := D.flatMap fun b => [dg (b.toNat / 16), dg (b.toNat % 16)]
theorem hexB_app (a b : List UInt8) : hexB (a ++ b) = hexB a ++ hexB b := List.flatMap_append
theorem hexB_len (D : List UInt8) : (hexB D).length = 2 * D.length := by
  induction D with
  | nil => rfl
  | cons x r ih =>
    have : hexB (x :: r) = [dg (x.toNat / 16), dg (x.toNat % 16)] ++ hexB r := rfl
    rw [this, List.length_append, ih]
    simp; omega
theorem digs_get (k : Nat) (h : k < 16) : digs[k]? = some (dg k) := by
  unfold dg
  rw [List.getD, List.getElem?_eq_getElem (by show k < 16; exact h)]
  rfl
theorem and15 (n : Nat) (h : n < 256) : abits .and .u8 (n : Int) 15 = ((n % 16 : Nat) : Int) := by
  unfold abits
  have e1 : BitVec.ofInt 8 (n : Int) = BitVec.ofNat 8 n := by apply BitVec.eq_of_toNat_eq; simp
  have e2 : BitVec.ofInt 8 (15 : Int) = BitVec.ofNat 8 15 := rfl
  show IntKind.u8.wrap (((BitVec.ofInt 8 (n : Int)) &&& (BitVec.ofInt 8 15)).toNat : Int) = _
  rw [e1, e2, BitVec.toNat_and, BitVec.toNat_ofNat, BitVec.toNat_ofNat]
  have h1 : (n % 2 ^ 8) &&& (15 % 2 ^ 8) = n % 16 := by
    rw [Nat.mod_eq_of_lt h]
    exact Nat.and_two_pow_sub_one_eq_mod n 4
  rw [h1]
  unfold IntKind.wrap; simp [IntKind.bits, IntKind.signed]; omega

/-- a text's word -/
def wordB (s : List UInt8) : List UInt8 := 61 :: hexB s
theorem lat_str {H : Heap} {nm : Option Nat} {v : Value} {l : List UInt8} (q : LAt H 1 nm v l.length (ubs l)) :
    (v = .slice none 0 0 ∧ l = []) ∨ ∃ x, v = .slice (some ⟨x, 0, none⟩) l.length l.length ∧ afirst H 1 l.length (.slice (some ⟨x, 0, none⟩) l.length l.length) = some (ubs l) := by
  rcases q with ⟨_, rfl, h1, h2⟩ | ⟨x, md, e, _, rfl, h3, h4, _⟩
  · exact .inl ⟨rfl, by simpa [ubs] using h2⟩
  · refine .inr ⟨x, rfl, ?_⟩
    simp only [afirst, h3, if_true]
    exact acut_full (by rw [ubs_len, Nat.mul_one])
structure XS where
  i : Nat
  nm : Option Nat
  v : Value
  H : Heap
theorem text_ok (s : List UInt8) (hs : s.length ≤ 1000000) (h : Heap) : ACalls Tryd.prog 69 [.string (bs s)] h fun v h' => v = sv (wordB s) ∧ h' = h := by
  refine ACalls.same .string (acalls_of mix Tryd.func69 k69 n69 (by simp) fun hcl hb => ?_)
  have fil : afill [.int .u8 0] [(0, 1, .int .u8 61)] = some (ubs [61]) := rfl
  have f0 := cellsOf_new h (ubs [61]) .ex 1
  simp only [c69, s_seq, s_ops]
  have hub : List.map (fun b : UInt8 => Value.int IntKind.u8 (b.toNat : Int)) s = ubs s := rfl
  have hsm : s.length ≤ 1099511627776 := by omega
  have c1 : (h.push (.cells (ubs [61]) .ex 1)).Closed := closed_push hcl ubs_bel
  have c2 : ((h.push (.cells (ubs [61]) .ex 1)).push (.cells (ubs s) (.loose 5) 1)).Closed := closed_push c1 ubs_bel
  have e2 := ((Heap.Ext.refl h).push hcl (.cells (ubs [61]) .ex 1)).push hcl (.cells (ubs s) (.loose 5) 1)
  have n2 : ((h.push (.cells (ubs [61]) .ex 1)).push (.cells (ubs s) (.loose 5) 1)).n = h.n + 2 := rfl
  have m0 : LAt ((h.push (.cells (ubs [61]) .ex 1)).push (.cells (ubs s) (.loose 5) 1)) 1 (some h.n) (.slice (some ⟨h.n, 0, none⟩) 1 1) 1 (ubs [61]) :=
    .inr ⟨h.n, .ex, 1, rfl, rfl, by rw [cellsOf_ne (by show ¬ h.n = h.n + 1; omega)]; exact f0, rfl, by decide, fun q => by cases q⟩
  have mB : ((h.push (.cells (ubs [61]) .ex 1)).push (.cells (ubs s) (.loose 5) 1)).m (h.n + 1) = some (.cells (ubs s) (.loose 5) 1) := by
    exact if_pos rfl
  simp [fil, f0, bs_size, bs_data, hub, hsm]
  generalize (h.push (.cells (ubs [61]) .ex 1)).push (.cells (ubs s) (.loose 5) 1) = H0 at *
  refine awp_loop_of (α := XS) (fun z => z.i ≤ s.length ∧ LAt z.H 1 z.nm z.v (wordB (s.take z.i)).length (ubs (wordB (s.take z.i))) ∧ Gr h z.H ∧ H0.n ≤ z.H.n ∧ z.H.m (h.n + 1) = some (.cells (ubs s) (.loose 5) 1) ∧ ∀ x, z.nm = some x → h.n ≤ x ∧ x ≠ h.n + 1)
    (fun z => [(3, z.v), (9, .slice (some ⟨h.n + 1, 0, none⟩) s.length s.length), (10, .int .i64 s.length), (11, .int .i64 z.i)]) (fun z => z.H) (fun z => s.length - z.i) ⟨0, some h.n, _, H0⟩
    ⟨Nat.zero_le _, m0, ⟨by show h.n ≤ H0.n; omega, c2, e2.m⟩, Nat.le_refl _, mB, fun x e => by cases e; omega⟩ ⟨by show h.n ≤ H0.n; omega, Nat.le_refl _, fun _ _ e => e, c2⟩ (by simp; exact ⟨vb_slice (by show h.n < H0.n; omega), vb_slice (by show h.n + 1 < H0.n; omega), .int, .int⟩) ?_
  rintro ⟨i, nm, v, H⟩ ⟨hi, hl, hg, hn, hm, hnm⟩
  dsimp only at hi hl hg hn hm hnm ⊢
  by_cases hlt : i < s.length
  · have hi' : (i : Int) < (s.length : Int) := by omega
    have hc1 : H.cellsOf (h.n + 1) = some (ubs s, .loose 5, 1) := by unfold Heap.cellsOf; rw [hm]
    have hgt := ubs_get hlt
    have htk : s.take (i + 1) = s.take i ++ [s[i]] := by rw [List.take_succ_eq_append_getElem hlt]
    have hx1 : wordB (s.take (i + 1)) = wordB (s.take i) ++ [dg (s[i].toNat / 16), dg (s[i].toNat % 16)] := by
      unfold wordB
      rw [htk, hexB_app]
      rfl
    have hlen : (wordB (s.take i)).length ≤ 2000001 := by unfold wordB; rw [List.length_cons, hexB_len, List.length_take]; omega
    have hc := s[i].toNat_lt
    generalize s[i].toNat = c at *
    have q1 : (c : Int).fdiv 16 = ((c / 16 : Nat) : Int) := by rw [Int.fdiv_eq_ediv_of_nonneg _ (by decide)]; omega
    have q2 := and15 c hc
    have i1 : aidx (.int .u8 ((c / 16 : Nat) : Int)) 16 = some (c / 16) := aidx_of (by omega)
    have i2 : aidx (.int .u8 ((c % 16 : Nat) : Int)) 16 = some (c % 16) := aidx_of (by omega)
    have d1 := digs_get (c / 16) (by omega)
    have d2 := digs_get (c % 16) (by omega)
    have b8 : IntKind.u8.bits = 8 := rfl
    have hds : (bs digs).size = 16 := rfl
    have hdd : (bs digs).data.toList = digs := rfl
    have hcd : (⟨⟨[48, 49, 50, 51, 52, 53, 54, 55, 56, 57, 97, 98, 99, 100, 101, 102]⟩⟩ : ByteArray) = bs digs := rfl
    generalize c / 16 = u at *
    generalize c % 16 = w at *
    have w4 : IntKind.i64.wrap ((i : Int) + 1) = ((i + 1 : Nat) : Int) := w1 i (by omega)
    obtain ⟨a, rfl, v2, H2, happ, l2, keep2, n3, c3⟩ := lat_bytes hg.cl hl [dg u, dg w] (by simp) (by simp; omega)
    have fil2 : afill [.int .u8 0, .int .u8 0] [(0, 1, .int .u8 ((dg u).toNat : Int)), (1, 1, .int .u8 ((dg w).toNat : Int))] = some (ubs [dg u, dg w]) := rfl
    have hfst : afirst (H.push (.cells (ubs [dg u, dg w]) .ex 1)) 1 2 (.slice (some ⟨H.n, 0, none⟩) 2 2) = some (ubs [dg u, dg w]) := by
      simp only [afirst, cellsOf_new, if_true]
      rfl
    have hlw : [dg u, dg w].length = 2 := rfl
    rw [hlw] at happ
    simp [c69_0, hi', aidx_of hlt, apart, hc1, hgt, b8, q1, q2, hcd, hds, hdd, i1, i2, d1, d2, fil2, alen, hfst, happ, w4, -Int.natCast_add]
    refine ⟨⟨i + 1, some (H.n + 1), v2, H2⟩, by show s.length - (i + 1) < s.length - i; omega, ⟨by show i + 1 ≤ s.length; omega, ?_, ⟨by have := hg.n; show h.n ≤ H2.n; omega, c3, fun y ob e => keep2 y ob (hg.m y ob e) (fun q => by have := (hnm y q).1; have := (hcl y ob e).1; omega)⟩, by show H0.n ≤ H2.n; omega, ?_, fun x e => by cases e; show h.n ≤ H.n + 1 ∧ H.n + 1 ≠ h.n + 1; omega⟩, ⟨by have := hg.n; show h.n ≤ H2.n; omega, Nat.le_refl _, fun _ _ e => e, c3⟩, ⟨rfl, l2.below c3⟩, vb_slice (by show h.n + 1 < H2.n; omega), .int, rfl, .int⟩
    · show LAt H2 1 (some (H.n + 1)) v2 (wordB (s.take (i + 1))).length (ubs (wordB (s.take (i + 1))))
      rw [hx1]; exact l2
    · exact keep2 _ _ hm fun q => (hnm _ q).2 rfl
  · have hie : i = s.length := by omega
    subst hie
    have hi' : ¬ (s.length : Int) < (s.length : Int) := by omega
    rw [List.take_of_length_le (Nat.le_refl _)] at hl
    rcases lat_str hl with ⟨_, q⟩ | ⟨x, rfl, hfs⟩
    · cases q
    simp [c69_0, hfs, abytes_ubs]
    exact ⟨rfl, hg.n, hg.m⟩
def c119 : AC := .seq (.ops [⟨ some 4, none, .mv (.const (.int .i64 0)) ⟩]) (.seq (.ops [⟨ some 5, none, .mv (.tmp 0) ⟩, ⟨ some 6, none, .mv (.tmp 1) ⟩, ⟨ some 7, none, .call 132 [.tmp 5, .tmp 6] ⟩, ⟨ some 4, none, .mv (.tmp 7) ⟩]) .ret)
theorem k119 : compF Tryd.prog Tryd.f119 = some (c119, [4]) := by kernel_rfl
theorem n119 : Tryd.f119.ntmps = 8 := by kernel_rfl
def c120 : AC := .seq (.ops [⟨ some 4, none, .mv (.const (.bool false)) ⟩]) (.seq (.ops [⟨ some 5, none, .mv (.tmp 0) ⟩, ⟨ some 6, none, .lenS true (.tmp 5) ⟩, ⟨ some 7, none, .mv (.tmp 1) ⟩, ⟨ some 8, none, .lenS true (.tmp 7) ⟩, ⟨ some 9, none, .bin .geq (.tmp 6) (.tmp 8) ⟩, ⟨ some 10, none, .mv (.tmp 9) ⟩, ⟨ some 11, some (10, true), .mv (.tmp 0) ⟩, ⟨ some 12, some (10, true), .mv (.tmp 1) ⟩, ⟨ some 13, some (10, true), .lenS true (.tmp 12) ⟩, ⟨ some 14, some (10, true), .slS (.tmp 11) none (some (.tmp 13)) ⟩, ⟨ some 15, some (10, true), .mv (.tmp 1) ⟩, ⟨ some 16, some (10, true), .bin .eql (.tmp 14) (.tmp 15) ⟩, ⟨ some 17, none, .pick (.tmp 10) (.tmp 16) (.const (.bool false)) ⟩, ⟨ some 4, none, .mv (.tmp 17) ⟩]) .ret)
theorem k120 : compF Tryd.prog Tryd.f120 = some (c120, [4]) := by kernel_rfl
theorem n120 : Tryd.f120.ntmps = 18 := by kernel_rfl
def c141 : AC := .seq (.ops [⟨ some 4, none, .mv (.const (.string ⟨ ⟨[] ⟩ ⟩)) ⟩]) (.seq (.seq (.ops [⟨ some 5, none, .mv (.tmp 0) ⟩, ⟨ some 6, none, .mv (.tmp 1) ⟩, ⟨ some 7, none, .call 120 [.tmp 5, .tmp 6] ⟩]) (.cond (.tmp 7) (.seq (.ops [⟨ some 8, none, .mv (.tmp 0) ⟩, ⟨ some 9, none, .mv (.tmp 1) ⟩, ⟨ some 10, none, .lenS true (.tmp 9) ⟩, ⟨ some 11, none, .slS (.tmp 8) (some (.tmp 10)) none ⟩, ⟨ some 4, none, .mv (.tmp 11) ⟩]) .ret) .skip)) (.seq (.ops [⟨ some 12, none, .mv (.tmp 0) ⟩, ⟨ some 4, none, .mv (.tmp 12) ⟩]) .ret))
theorem k141 : compF Tryd.prog Tryd.f141 = some (c141, [4]) := by kernel_rfl
theorem n141 : Tryd.f141.ntmps = 13 := by kernel_rfl
def c118 : AC := .seq (.ops [⟨ some 4, none, .mv (.const (.string ⟨ ⟨[] ⟩ ⟩)) ⟩]) (.seq (.ops [⟨ some 5, none, .mv (.tmp 0) ⟩, ⟨ some 6, none, .mv (.tmp 1) ⟩, ⟨ some 7, none, .call 141 [.tmp 5, .tmp 6] ⟩, ⟨ some 4, none, .mv (.tmp 7) ⟩]) .ret)
theorem k118 : compF Tryd.prog Tryd.f118 = some (c118, [4]) := by kernel_rfl
theorem n118 : Tryd.f118.ntmps = 8 := by kernel_rfl
def c110_0 : AC := .seq (.seq (.ops [⟨ some 10, none, .mv (.tmp 4) ⟩, ⟨ some 11, none, .lenS true (.tmp 10) ⟩, ⟨ some 12, none, .bin .gtr (.tmp 11) (.const (.int .i64 1)) ⟩]) (.cond (.tmp 12) .skip (.exit 0))) (.seq (.block 1 (.seq (.draw [([⟨ some 15, none, .mv (.tmp 4) ⟩, ⟨ some 16, none, .iStr (.tmp 15) (.const (.int .i64 0)) ⟩, ⟨ some 18, none, .mv (.tmp 4) ⟩, ⟨ some 19, none, .iStr (.tmp 18) (.const (.int .i64 1)) ⟩], [⟨ some 17, none, .call 119 [.const (.string ⟨ ⟨[48, 49, 50, 51, 52, 53, 54, 55, 56, 57, 97, 98, 99, 100, 101, 102] ⟩ ⟩), .tmp 16] ⟩], []), ([], [⟨ some 20, none, .call 119 [.const (.string ⟨ ⟨[48, 49, 50, 51, 52, 53, 54, 55, 56, 57, 97, 98, 99, 100, 101, 102] ⟩ ⟩), .tmp 19] ⟩], []), ([⟨ some 6, none, .mv (.tmp 17) ⟩, ⟨ some 7, none, .mv (.tmp 20) ⟩], [], [])]) (.seq (.seq (.ops [⟨ some 21, none, .mv (.tmp 6) ⟩, ⟨ some 22, none, .bin .lss (.tmp 21) (.const (.int .i64 0)) ⟩, ⟨ some 23, none, .mv (.tmp 22) ⟩, ⟨ some 24, some (23, false), .mv (.tmp 7) ⟩, ⟨ some 25, some (23, false), .bin .lss (.tmp 24) (.const (.int .i64 0)) ⟩, ⟨ some 26, none, .pick (.tmp 23) (.const (.bool true)) (.tmp 25) ⟩]) (.cond (.tmp 26) (.seq (.ops [⟨ some 2, none, .mv (.const (.string ⟨ ⟨[] ⟩ ⟩)) ⟩, ⟨ some 3, none, .mv (.const (.bool false)) ⟩]) .ret) .skip)) (.ops [⟨ some 27, none, .mv (.tmp 5) ⟩, ⟨ some 28, none, .mv (.tmp 6) ⟩, ⟨ some 29, none, .bin .shl (.tmp 28) (.const (.int .u64 4)) ⟩, ⟨ some 30, none, .mv (.tmp 7) ⟩, ⟨ some 31, none, .bin .or (.tmp 29) (.tmp 30) ⟩, ⟨ some 32, none, .toInt .u8 (.tmp 31) ⟩, ⟨ some 33, none, .buildS 1 [.int .u8 0] [(0, 1, .tmp 32)] ⟩, ⟨ some 34, none, .app 1 1 5 (.tmp 27) (.tmp 33) ⟩, ⟨ some 5, none, .mv (.tmp 34) ⟩])))) (.ops [⟨ some 13, none, .mv (.tmp 4) ⟩, ⟨ some 14, none, .slS (.tmp 13) (some (.const (.int .i64 2))) none ⟩, ⟨ some 4, none, .mv (.tmp 14) ⟩]))
def c110 : AC := .seq (.ops [⟨ some 2, none, .mv (.const (.string ⟨ ⟨[] ⟩ ⟩)) ⟩, ⟨ some 3, none, .mv (.const (.bool false)) ⟩]) (.seq (.ops [⟨ some 8, none, .mv (.tmp 0) ⟩, ⟨ some 9, none, .call 118 [.tmp 8, .const (.string ⟨ ⟨[61] ⟩ ⟩)] ⟩, ⟨ some 4, none, .mv (.tmp 9) ⟩]) (.seq (.ops [⟨ some 5, none, .mv (.const (.slice none 0 0)) ⟩]) (.seq (.block 0 (.loop c110_0)) (.seq (.ops [⟨ some 35, none, .mv (.tmp 5) ⟩, ⟨ some 36, none, .toStr (.tmp 35) ⟩, ⟨ some 37, none, .mv (.tmp 4) ⟩, ⟨ some 38, none, .bin .eql (.tmp 37) (.const (.string ⟨ ⟨[] ⟩ ⟩)) ⟩, ⟨ some 2, none, .mv (.tmp 36) ⟩, ⟨ some 3, none, .mv (.tmp 38) ⟩]) .ret))))
theorem k110 : compF Tryd.prog Tryd.f110 = some (c110, [2, 3]) := by kernel_rfl
theorem n110 : Tryd.f110.ntmps = 39 := by kernel_rfl
/-! a word's text -/
theorem ixb_ok (l : List UInt8) (c : UInt8) (h : Heap) : ACalls Tryd.prog 119 [.string (bs l), .int .u8 (c.toNat : Int)] h fun v h' => v = .int .i64 (match idx1 c l with | some i => (i : Int) | none => -1) ∧ h' = h := by
  refine acalls_of mix Tryd.func119 k119 n119 (by simp) fun hcl hb => ?_
  simp [c119]
  refine (iby_ok l c h).mono ?_
  rintro _ h9 ⟨rfl, rfl⟩
  simp
  cases idx1 c l <;> rfl
def trim1 (c : UInt8) : List UInt8 → List UInt8
  | [] => []
  | x :: r => if x = c then r else x :: r
theorem hasP1_ok (l : List UInt8) (c : UInt8) (h : Heap) : ACalls Tryd.prog 120 [.string (bs l), .string (bs [c])] h fun v h' => v = .bool (decide (l.head? = some c)) ∧ h' = h := by
  refine acalls_of mix Tryd.func120 k120 n120 (by simp) fun hcl hb => ?_
  have hs1 : (bs [c]).size = 1 := rfl
  cases l with
  | nil =>
    have h0 : (bs []).size = 0 := rfl
    simp [c120, hs1, h0]
  | cons x r =>
    have b1 : abounds (bs (x :: r)).size (bs (x :: r)).size none (some (.int .i64 ((1 : Nat) : Int))) none = some (0, 1, (bs (x :: r)).size) := abounds_hi (by rw [bs_size]; simp)
    have x1 : (bs (x :: r)).extract 0 1 = bs [x] := by rw [bs_extract]; rfl
    have hs2 : (bs (x :: r)).size = r.length + 1 := by rw [bs_size]; rfl
    have he : decide (bs [x] = bs [c]) = decide (x = c) := by rw [bs_eq_dec]; simp
    rw [hs2] at b1
    have b1' : abounds (r.length + 1) (r.length + 1) none (some (.int .i64 1)) none = some (0, 1, r.length + 1) := b1
    have hge : (1 : Int) ≤ (r.length : Int) + 1 := by omega
    simp [c120, hs1, hs2, hge, b1', x1, he]
theorem trim1_ok (l : List UInt8) (c : UInt8) (h : Heap) : ACalls Tryd.prog 118 [.string (bs l), .string (bs [c])] h fun v h' => v = sv (trim1 c l) ∧ h' = h := by
  refine acalls_of mix Tryd.func118 k118 n118 (by simp) fun hcl hb => ?_
  simp [c118]
  refine ACalls.mono (R := fun v h' => v = sv (trim1 c l) ∧ h' = h) ?_ ?_
  · refine acalls_of mix Tryd.func141 k141 n141 (by simp) fun hcl hb => ?_
    simp [c141]
    refine (hasP1_ok l c h).mono ?_
    rintro _ h9 ⟨rfl, e⟩
    rw [e]; clear e h9
    have hs1 : (bs [c]).size = 1 := rfl
    cases l with
    | nil => simp; rfl
    | cons x r =>
      have hs2 : (bs (x :: r)).size = r.length + 1 := by rw [bs_size]; rfl
      by_cases hx : x = c
      · have b1 : abounds (r.length + 1) (r.length + 1) (some (.int .i64 1)) none none = some (1, r.length + 1, r.length + 1) := abounds_lo (l := 1) (by omega) (Nat.le_refl _)
        have x1 : (bs (x :: r)).extract 1 (r.length + 1) = bs r := by rw [bs_extract, List.take_of_length_le (by simp)]; rfl
        subst hx
        simp [hs1, hs2, b1, x1, trim1]
        rfl
      · simp [hx, trim1]
        rfl
  · rintro v h' ⟨rfl, rfl⟩
    simp
theorem idx1_lt {c : UInt8} {l : List UInt8} {i : Nat} (h : idx1 c l = some i) : i < l.length := by
  obtain ⟨a, b, rfl, _, rfl⟩ := idx1_some h
  simp
theorem idx_dg (u : Nat) (h : u < 16) : idx1 (dg u) digs = some u := by
  have : ∀ j : Fin 16, idx1 (dg j.val) digs = some j.val := by decide
  exact this ⟨u, h⟩
theorem orl (i j : Nat) (hi : i < 16) (hj : j < 16) : IntKind.u8.wrap (abits .or .i64 (IntKind.i64.wrap ((i : Int) * 16)) j) = ((UInt8.ofNat (16 * i + j)).toNat : Int) := by
  have : ∀ a b : Fin 16, IntKind.u8.wrap (abits .or .i64 (IntKind.i64.wrap ((a.val : Int) * 16)) b.val) = ((UInt8.ofNat (16 * a.val + b.val)).toNat : Int) := by decide
  exact this ⟨i, hi⟩ ⟨j, hj⟩
theorem u8_hl (c : UInt8) : UInt8.ofNat (16 * (c.toNat / 16) + c.toNat % 16) = c := by
  rw [show 16 * (c.toNat / 16) + c.toNat % 16 = c.toNat by omega]
  exact UInt8.ofNat_toNat
/-- a text that a word may have -/
def RB (w : List UInt8) (v : Value) : Prop := (∃ b ok, v = .tuple #[sv b, .bool ok] ∧ b.length ≤ w.length) ∧ ∀ S, w = wordB S → v = .tuple #[sv S, .bool true]
structure YS where
  T : List UInt8
  r : List UInt8
  nm : Option Nat
  v : Value
  H : Heap
theorem lbytes_ok (w : List UInt8) (hw : w.length ≤ 1000000) (h : Heap) : ACalls Tryd.prog 110 [.string (bs w)] h fun v h' => RB w v ∧ h' = h := by
  refine ACalls.same' (R := RB w) (fun v hv => ?_) (acalls_of mix Tryd.func110 k110 n110 (by simp) fun hcl hb => ?_)
  · obtain ⟨⟨b, ok, rfl, _⟩, _⟩ := hv
    exact vb_tup2 .string .bool
  simp only [c110, s_seq, s_ops]
  simp [bs_lit]
  refine (trim1_ok w 61 h).mono ?_
  rintro _ h9 ⟨rfl, e⟩
  rw [e]; clear e h9
  have htl : (trim1 61 w).length ≤ w.length := by cases w with
    | nil => simp [trim1]
    | cons x r => by_cases hx : x = 61 <;> simp [trim1, hx]
  have htw : ∀ S, w = wordB S → trim1 61 w = hexB S := fun S e => by rw [e]; simp [wordB, trim1]
  simp
  refine awp_loop_of (α := YS) (fun z => 2 * z.T.length + z.r.length ≤ w.length ∧ (∀ S, w = wordB S → ∃ S2, S = z.T ++ S2 ∧ z.r = hexB S2) ∧ LAt z.H 1 z.nm z.v z.T.length (ubs z.T) ∧ Gr h z.H ∧ ∀ x, z.nm = some x → h.n ≤ x)
    (fun z => [(4, sv z.r), (5, z.v)]) (fun z => z.H) (fun z => z.r.length) ⟨[], trim1 61 w, none, .slice none 0 0, h⟩
    ⟨by simpa using htl, fun S e => ⟨S, rfl, htw S e⟩, .inl ⟨rfl, rfl, rfl, rfl⟩, ⟨Nat.le_refl _, hcl, fun _ _ e => e⟩, fun x e => by cases e⟩ (Heap.Sub.refl hcl) (by simp; exact ⟨.string, .snil⟩) ?_
  rintro ⟨T, r, nm, v, H⟩ ⟨hlen, hS, hl, hg, hnm⟩
  dsimp only at hlen hS hl hg hnm ⊢
  have hsr : (bs r).size = r.length := bs_size r
  match r, hlen, hS, hsr with
  | [], hlen, hS, hsr =>
    rcases lat_str hl with ⟨rfl, rfl⟩ | ⟨x, rfl, hfs⟩
    · simp [c110_0, sv, hsr]
      exact ⟨⟨⟨[], true, rfl, Nat.zero_le _⟩, fun S e => by
        obtain ⟨S2, h1, h2⟩ := hS S e
        have : S2 = [] := by
          have := congrArg List.length h2
          rw [hexB_len] at this
          exact List.length_eq_zero_iff.1 (by simp at this; omega)
        rw [h1, this]; rfl⟩, hg.n, hg.m⟩
    · simp [c110_0, sv, hsr, hfs, abytes_ubs]
      exact ⟨⟨⟨T, true, rfl, by simp at hlen; omega⟩, fun S e => by
        obtain ⟨S2, h1, h2⟩ := hS S e
        have : S2 = [] := by
          have := congrArg List.length h2
          rw [hexB_len] at this
          exact List.length_eq_zero_iff.1 (by simp at this; omega)
        rw [h1, this, List.append_nil]; rfl⟩, hg.n, hg.m⟩
  | [x], hlen, hS, hsr =>
    have hne : ¬ bs [x] = bs [] := fun q => by have := bs_inj.1 q; cases this
    have nog : ∀ S, w ≠ wordB S := fun S e => by
      obtain ⟨S2, h1, h2⟩ := hS S e
      have := congrArg List.length h2
      rw [hexB_len] at this
      simp at this; omega
    rcases lat_str hl with ⟨rfl, rfl⟩ | ⟨x, rfl, hfs⟩
    · simp [c110_0, sv, hsr, bs_lit, hne]
      exact ⟨⟨⟨[], false, rfl, Nat.zero_le _⟩, fun S e => absurd e (nog S)⟩, hg.n, hg.m⟩
    · simp [c110_0, sv, hsr, hfs, abytes_ubs, bs_lit, hne]
      exact ⟨⟨⟨T, false, rfl, by simp at hlen; omega⟩, fun S e => absurd e (nog S)⟩, hg.n, hg.m⟩
  | x :: y :: r, hlen, hS, hsr =>
    have h2 : (1 : Int) < (r.length : Int) + 1 + 1 := by omega
    have hsr' : (bs (x :: y :: r)).size = r.length + 1 + 1 := by rw [hsr]; rfl
    have hdd : (bs (x :: y :: r)).data.toList = x :: y :: r := bs_data _
    have i0 : aidx (.int .i64 0) (r.length + 1 + 1) = some 0 := aidx_of (i := 0) (by omega)
    have i1 : aidx (.int .i64 1) (r.length + 1 + 1) = some 1 := aidx_of (i := 1) (by omega)
    have hcd : (⟨⟨[48, 49, 50, 51, 52, 53, 54, 55, 56, 57, 97, 98, 99, 100, 101, 102]⟩⟩ : ByteArray) = bs digs := rfl
    have hcd' : bs [48, 49, 50, 51, 52, 53, 54, 55, 56, 57, 97, 98, 99, 100, 101, 102] = bs digs := rfl
    obtain ⟨a, rfl⟩ := hl.form
    have hbad : (∀ S, w ≠ wordB S) → RB w (.tuple #[sv [], .bool false]) := fun hn => ⟨⟨[], false, rfl, Nat.zero_le _⟩, fun S e => absurd e (hn S)⟩
    have hxy : ∀ S, w = wordB S → ∃ c S3, x = dg (UInt8.toNat c / 16) ∧ y = dg (UInt8.toNat c % 16) ∧ r = hexB S3 ∧ S = T ++ c :: S3 := fun S e => by
      obtain ⟨S2, h1, h2⟩ := hS S e
      cases S2 with
      | nil => cases h2
      | cons c S3 =>
        have : hexB (c :: S3) = dg (c.toNat / 16) :: dg (c.toNat % 16) :: hexB S3 := rfl
        rw [this] at h2
        simp only [List.cons.injEq] at h2
        exact ⟨c, S3, h2.1, h2.2.1, h2.2.2, h1⟩
    have hix : ∀ c : UInt8, c.toNat / 16 < 16 ∧ c.toNat % 16 < 16 := fun c => by have := c.toNat_lt; omega
    simp [c110_0, sv, hsr', h2, i0, i1, hdd, hcd]
    refine (ixb_ok digs x H).mono ?_
    rintro _ h9 ⟨rfl, e⟩
    rw [e]; clear e h9
    simp
    refine (ixb_ok digs y H).mono ?_
    rintro _ h9 ⟨rfl, e⟩
    rw [e]; clear e h9
    cases hx : idx1 x digs with
    | none =>
      simp [bs_lit]
      exact ⟨hbad (fun S e => by
        obtain ⟨c, S3, hx1, _⟩ := hxy S e
        rw [hx1, idx_dg _ (hix c).1] at hx; cases hx), hg.n, hg.m⟩
    | some i =>
      have hi0 : ¬ (i : Int) < 0 := by omega
      cases hy : idx1 y digs with
      | none =>
        simp [bs_lit, hi0]
        exact ⟨hbad (fun S e => by
          obtain ⟨c, S3, _, hy1, _⟩ := hxy S e
          rw [hy1, idx_dg _ (hix c).2] at hy; cases hy), hg.n, hg.m⟩
      | some j =>
        have hj0 : ¬ (j : Int) < 0 := by omega
        have hi16 : i < 16 := idx1_lt hx
        have hj16 : j < 16 := idx1_lt hy
        have ho := orl i j hi16 hj16
        have b64 : IntKind.i64.bits = 64 := rfl
        obtain ⟨a', he, v2, H2, happ, l2, keep2, n3, c3⟩ := lat_bytes hg.cl hl [UInt8.ofNat (16 * i + j)] (by simp) (by simp at hlen ⊢; omega)
        cases he
        have fil2 : ∀ z, afill [.int .u8 0] [(0, 1, .int .u8 ((UInt8.toNat z : Nat) : Int))] = some (ubs [z]) := fun _ => rfl
        have hfst : ∀ z, afirst (H.push (.cells (ubs [z]) .ex 1)) 1 1 (.slice (some ⟨H.n, 0, none⟩) 1 1) = some (ubs [z]) := fun z => by
          simp only [afirst, cellsOf_new, if_true]
          rfl
        have hlw : [UInt8.ofNat (16 * i + j)].length = 1 := rfl
        have b1 : abounds (r.length + 1 + 1) (r.length + 1 + 1) (some (.int .i64 2)) none none = some (2, r.length + 1 + 1, r.length + 1 + 1) := abounds_lo (l := 2) (by omega) (Nat.le_refl _)
        have x1 : (bs (x :: y :: r)).extract 2 (r.length + 1 + 1) = bs r := by rw [bs_extract, List.take_of_length_le (by simp)]; rfl
        rw [hlw] at happ
        generalize hz : UInt8.ofNat (16 * i + j) = z at *
        simp [bs_lit, hi0, hj0, b64, ho, fil2, hfst, happ, alen, hsr', b1, x1]
        refine ⟨⟨T ++ [z], r, some (H.n + 1), v2, H2⟩, by show r.length < (x :: y :: r).length; simp, ⟨by show 2 * (T ++ [z]).length + r.length ≤ w.length; simp at hlen ⊢; omega, fun S e => ?_, l2, ⟨by have := hg.n; show h.n ≤ H2.n; omega, c3, fun yy ob e => keep2 yy ob (hg.m yy ob e) (fun q => by have := hnm yy q; have := (hcl yy ob e).1; omega)⟩, fun xx e => by cases e; have := hg.n; show h.n ≤ H.n + 1; omega⟩, ⟨by have := hg.n; show h.n ≤ H2.n; omega, Nat.le_refl _, fun _ _ e => e, c3⟩, ⟨rfl, .string⟩, rfl, l2.below c3⟩
        obtain ⟨c, S3, hx1, hy1, hr1, hS1⟩ := hxy S e
        rw [hx1, idx_dg _ (hix c).1] at hx
        rw [hy1, idx_dg _ (hix c).2] at hy
        cases hx
        cases hy
        rw [u8_hl] at hz
        subst hz
        exact ⟨S3, by show S = (T ++ [c]) ++ S3; rw [hS1]; simp, hr1⟩
def c88 : AC := .seq (.ops [⟨ some 2, none, .box (.tmp 0) ⟩, ⟨ some 4, none, .mv (.const (.string ⟨ ⟨[] ⟩ ⟩)) ⟩, ⟨ some 5, none, .mv (.const (.bool false)) ⟩]) (.seq (.ops [⟨ some 7, none, .fAddr 1 (.tmp 2) ⟩, ⟨ some 8, none, .load none (.tmp 7) ⟩, ⟨ some 6, none, .mv (.tmp 8) ⟩]) (.seq (.seq (.ops [⟨ some 9, none, .mv (.tmp 1) ⟩]) (.block 0 (.seq (.ops [⟨ some 11, none, .bin .eql (.tmp 9) (.const (.int .i32 83)) ⟩, ⟨ some 10, none, .mv (.tmp 11) ⟩]) (.cond (.tmp 10) (.seq (.draw [([⟨ some 12, none, .fAddr 2 (.tmp 2) ⟩, ⟨ some 13, none, .load none (.tmp 12) ⟩, ⟨ some 15, none, .fAddr 2 (.tmp 2) ⟩, ⟨ some 16, none, .load none (.tmp 15) ⟩, ⟨ some 17, none, .lenS true (.tmp 16) ⟩, ⟨ some 18, none, .bin .leq (.tmp 17) (.const (.int .i64 400)) ⟩], [⟨ some 14, none, .call 69 [.tmp 13] ⟩], [⟨ some 16, none, .load none (.tmp 15) ⟩]), ([⟨ some 4, none, .mv (.tmp 14) ⟩, ⟨ some 5, none, .mv (.tmp 18) ⟩], [], [])]) .ret) (.seq (.ops [⟨ some 20, none, .bin .eql (.tmp 9) (.const (.int .i32 66)) ⟩, ⟨ some 19, none, .mv (.tmp 20) ⟩]) (.cond (.tmp 19) (.ops [⟨ some 21, none, .fAddr 3 (.tmp 2) ⟩, ⟨ some 22, none, .fAddr 0 (.tmp 21) ⟩, ⟨ some 23, none, .load none (.tmp 22) ⟩, ⟨ some 6, none, .mv (.tmp 23) ⟩]) (.seq (.ops [⟨ some 25, none, .bin .eql (.tmp 9) (.const (.int .i32 77)) ⟩, ⟨ some 24, none, .mv (.tmp 25) ⟩]) (.cond (.tmp 24) (.ops [⟨ some 26, none, .fAddr 3 (.tmp 2) ⟩, ⟨ some 27, none, .fAddr 1 (.tmp 26) ⟩, ⟨ some 28, none, .load none (.tmp 27) ⟩, ⟨ some 29, none, .toInt .i64 (.tmp 28) ⟩, ⟨ some 6, none, .mv (.tmp 29) ⟩]) .skip)))))))) (.seq (.ops [⟨ some 30, none, .mv (.tmp 6) ⟩, ⟨ some 31, none, .call 54 [.tmp 30] ⟩, ⟨ some 32, none, .mv (.tmp 6) ⟩, ⟨ some 33, none, .bin .geq (.tmp 32) (.const (.int .i64 (-1000000))) ⟩, ⟨ some 34, none, .mv (.tmp 33) ⟩, ⟨ some 35, some (34, true), .mv (.tmp 6) ⟩, ⟨ some 36, some (34, true), .bin .leq (.tmp 35) (.const (.int .i64 1000000)) ⟩, ⟨ some 37, none, .pick (.tmp 34) (.tmp 36) (.const (.bool false)) ⟩, ⟨ some 4, none, .mv (.tmp 31) ⟩, ⟨ some 5, none, .mv (.tmp 37) ⟩]) .ret)))
theorem k88 : compF Tryd.prog Tryd.f88 = some (c88, [4, 5]) := by kernel_rfl
theorem n88 : Tryd.f88.ntmps = 38 := by kernel_rfl
def c60_0 : AC := .seq (.ops [⟨ some 21, none, .nextS (.tmp 20) ⟩, ⟨ some 22, none, .extr (.tmp 21) 0 ⟩]) (.seq (.cond (.tmp 22) .skip (.exit 0)) (.block 1 (.seq (.ops [⟨ some 23, none, .extr (.tmp 21) 2 ⟩, ⟨ some 8, none, .mv (.tmp 23) ⟩]) (.seq (.ops [⟨ some 25, none, .load (some 5) (.tmp 1) ⟩, ⟨ some 26, none, .mv (.tmp 8) ⟩, ⟨ some 27, none, .call 88 [.tmp 25, .tmp 26] ⟩, ⟨ some 24, none, .mv (.tmp 27) ⟩, ⟨ some 28, none, .extr (.tmp 24) 0 ⟩, ⟨ some 29, none, .extr (.tmp 24) 1 ⟩, ⟨ some 9, none, .mv (.tmp 28) ⟩, ⟨ some 10, none, .mv (.tmp 29) ⟩]) (.seq (.seq (.ops [⟨ some 30, none, .mv (.tmp 10) ⟩, ⟨ some 31, none, .un .not (.tmp 30) ⟩]) (.cond (.tmp 31) (.seq (.ops [⟨ some 2, none, .mv (.const (.string ⟨ ⟨[] ⟩ ⟩)) ⟩, ⟨ some 3, none, .mv (.const (.bool false)) ⟩]) .ret) .skip)) (.ops [⟨ some 32, none, .mv (.tmp 6) ⟩, ⟨ some 33, none, .mv (.tmp 9) ⟩, ⟨ some 34, none, .buildS 1 [.string ⟨ ⟨[] ⟩ ⟩] [(0, 1, .tmp 33)] ⟩, ⟨ some 35, none, .app 1 16 9 (.tmp 32) (.tmp 34) ⟩, ⟨ some 6, none, .mv (.tmp 35) ⟩]))))))
def c60 : AC := .seq (.ops [⟨ some 1, none, .box (.tmp 0) ⟩, ⟨ some 2, none, .mv (.const (.string ⟨ ⟨[] ⟩ ⟩)) ⟩, ⟨ some 3, none, .mv (.const (.bool false)) ⟩]) (.seq (.ops [⟨ some 12, none, .fAddr 0 (.tmp 1) ⟩, ⟨ some 13, none, .load none (.tmp 12) ⟩, ⟨ some 14, none, .call 87 [.tmp 13] ⟩, ⟨ some 11, none, .mv (.tmp 14) ⟩, ⟨ some 15, none, .extr (.tmp 11) 0 ⟩, ⟨ some 16, none, .extr (.tmp 11) 1 ⟩, ⟨ some 4, none, .mv (.tmp 15) ⟩, ⟨ some 5, none, .mv (.tmp 16) ⟩]) (.seq (.ops [⟨ some 17, none, .mv (.tmp 4) ⟩, ⟨ some 18, none, .buildS 1 [.string ⟨ ⟨[] ⟩ ⟩] [(0, 1, .tmp 17)] ⟩, ⟨ some 6, none, .mv (.tmp 18) ⟩]) (.seq (.seq (.ops [⟨ some 19, none, .mv (.tmp 5) ⟩, ⟨ some 20, none, .rangeS (.tmp 19) ⟩]) (.block 0 (.loop c60_0))) (.seq (.ops [⟨ some 36, none, .mv (.tmp 6) ⟩, ⟨ some 37, none, .call 55 [.tmp 36, .const (.string ⟨ ⟨[32] ⟩ ⟩)] ⟩, ⟨ some 38, none, .mv (.tmp 4) ⟩, ⟨ some 39, none, .bin .neq (.tmp 38) (.const (.string ⟨ ⟨[] ⟩ ⟩)) ⟩, ⟨ some 2, none, .mv (.tmp 37) ⟩, ⟨ some 3, none, .mv (.tmp 39) ⟩]) .ret))))
theorem k60 : compF Tryd.prog Tryd.f60 = some (c60, [2, 3]) := by kernel_rfl
theorem n60 : Tryd.f60.ntmps = 40 := by kernel_rfl
/-! an event's line -/
structure Ev where
  k : Int
  a : Int
  s : List UInt8
  b : Int
  m : Int
  deriving DecidableEq
def ev (e : Ev) : List Value := [.int .i64 e.k, .int .i64 e.a, sv e.s, .int .i64 e.b, .int .u8 e.m]
structure Ev.Ok (e : Ev) : Prop where
  k : -9223372036854775808 ≤ e.k ∧ e.k < 9223372036854775808
  a : -9223372036854775808 ≤ e.a ∧ e.a < 9223372036854775808
  b : -9223372036854775808 ≤ e.b ∧ e.b < 9223372036854775808
  m : 0 ≤ e.m ∧ e.m < 256
  s : e.s.length ≤ 10000
theorem ev_bel {n : Nat} {e : Ev} : ∀ x ∈ ev e, VBelow n x := fun x hx => by
  simp [ev] at hx
  rcases hx with rfl | rfl | rfl | rfl | rfl
  · exact .int
  · exact .int
  · exact .string
  · exact .int
  · exact .int
theorem mc_ev (e : Ev) : mcells (.agg (ev e).toArray) = some (ev e) := rfl
theorem acut_ev (e : Ev) : acut (ev e) 0 5 = some (ev e) := rfl
theorem ev_agg (n : Nat) (e : Ev) : VBelow n (.agg (ev e).toArray) := .agg fun k hk => by
  have : (ev e).toArray.getD k unk ∈ ev e := by
    have hk' : k < (ev e).length := by simpa using hk
    simp [Array.getD, hk']
  exact ev_bel _ this
def fitI (n : Int) : Bool := decide (-1000000 ≤ n ∧ n ≤ 1000000)
def numOf (e : Ev) (c : UInt8) : Int := if c = 66 then e.b else if c = 77 then e.m else e.a
/-- the word of a letter; whether it is one -/
def wv (e : Ev) (c : UInt8) : List UInt8 × Bool := if c = 83 then (wordB e.s, decide (e.s.length ≤ 400)) else (itoaB (numOf e c), fitI (numOf e c))
theorem word_ok (e : Ev) (he : e.Ok) (c : UInt8) (h : Heap) : ACalls Tryd.prog 88 [.agg (ev e).toArray, .int .i32 (c.toNat : Int)] h fun v h' => v = .tuple #[sv (wv e c).1, .bool (wv e c).2] ∧ h' = h := by
  refine ACalls.same (vb_tup2 .string .bool) (acalls_of mix Tryd.func88 k88 n88 (by simp) fun hcl hb => ?_)
  have f0 := cellsOf_new h (ev e) .ex 1
  have e0 := (Heap.Ext.refl h).push hcl (.cells (ev e) .ex 1)
  have g1 : (ev e)[1]? = some (.int .i64 e.a) := rfl
  have g2 : (ev e)[2]? = some (.string (bs e.s)) := rfl
  have g3 : (ev e)[3]? = some (.int .i64 e.b) := rfl
  have g4 : (ev e)[4]? = some (.int .u8 e.m) := rfl
  have hl5 : (ev e).length = 5 := rfl
  have hes := he.s
  have c83 : ((c.toNat : Int) = 83) = (c = 83) := by
    apply propext
    refine ⟨fun q => UInt8.toNat_inj.1 ?_, fun q => by rw [q]; rfl⟩
    have : (83 : UInt8).toNat = 83 := rfl
    omega
  have c66 : ((c.toNat : Int) = 66) = (c = 66) := by
    apply propext
    refine ⟨fun q => UInt8.toNat_inj.1 ?_, fun q => by rw [q]; rfl⟩
    have : (66 : UInt8).toNat = 66 := rfl
    omega
  have c77 : ((c.toNat : Int) = 77) = (c = 77) := by
    apply propext
    refine ⟨fun q => UInt8.toNat_inj.1 ?_, fun q => by rw [q]; rfl⟩
    have : (77 : UInt8).toNat = 77 := rfl
    omega
  by_cases q83 : c = 83
  · have hwv : wv e c = (wordB e.s, decide (e.s.length ≤ 400)) := by unfold wv; rw [if_pos q83]
    rw [hwv]
    simp [c88, mc_ev, f0, apart, g1, g2, c83, q83, bs_size]
    refine (text_ok e.s (by omega) _).mono ?_
    rintro _ h9 ⟨rfl, e'⟩
    rw [e']; clear e' h9
    simp [f0, g2, apart]
    exact ⟨by omega, e0⟩
  · have hb1 := he.a
    have hb2 := he.b
    have hb3 := he.m
    by_cases q66 : c = 66
    · skip
      have hwv : wv e c = (itoaB e.b, fitI (e.b)) := by unfold wv numOf; simp [q66]
      rw [hwv]
      have hf : fitI (e.b) = decide (-1000000 ≤ e.b ∧ e.b ≤ 1000000) := rfl
      rw [hf]
      simp [c88, mc_ev, f0, apart, g1, g3, g4, c83, c66, c77, q83, q66]
      refine (itoa_ok (e.b) (by omega) (by omega) _).mono ?_
      rintro _ h9 ⟨rfl, e'⟩
      rw [e']; clear e' h9
      by_cases q : -1000000 ≤ e.b
      · simp [q]
        exact ⟨rfl, e0⟩
      · simp [q]
        exact ⟨rfl, e0⟩
    · by_cases q77 : c = 77
      · have w1' : IntKind.i64.wrap e.m = e.m := IntWalk.i64_in _ (by omega)
        have hwv : wv e c = (itoaB e.m, fitI (e.m)) := by unfold wv numOf; simp [q77]
        rw [hwv]
        have hf : fitI (e.m) = decide (-1000000 ≤ e.m ∧ e.m ≤ 1000000) := rfl
        rw [hf]
        simp [c88, mc_ev, f0, apart, g1, g3, g4, c83, c66, c77, q83, q66, q77, w1']
        refine (itoa_ok (e.m) (by omega) (by omega) _).mono ?_
        rintro _ h9 ⟨rfl, e'⟩
        rw [e']; clear e' h9
        by_cases q : -1000000 ≤ e.m
        · simp [q]
          exact ⟨rfl, e0⟩
        · simp [q]
          exact ⟨rfl, e0⟩
      · skip
        have hwv : wv e c = (itoaB e.a, fitI (e.a)) := by unfold wv numOf; simp [q83, q66, q77]
        rw [hwv]
        have hf : fitI (e.a) = decide (-1000000 ≤ e.a ∧ e.a ≤ 1000000) := rfl
        rw [hf]
        simp [c88, mc_ev, f0, apart, g1, g3, g4, c83, c66, c77, q83, q66, q77]
        refine (itoa_ok (e.a) (by omega) (by omega) _).mono ?_
        rintro _ h9 ⟨rfl, e'⟩
        rw [e']; clear e' h9
        by_cases q : -1000000 ≤ e.a
        · simp [q]
          exact ⟨rfl, e0⟩
        · simp [q]
          exact ⟨rfl, e0⟩
/-! the line -/
theorem lat_str1 {t : Nat} {H : Heap} {nm : Option Nat} {v : Value} {L : List (List UInt8)} (hc : H.Closed) (q : LAt H 1 nm v L.length (L.map sv)) (w : List UInt8) (hl : L.length ≤ 100000000) :
    ∃ a, v = .slice a L.length L.length ∧ ∃ v2 H2, aapp (H.push (.cells [sv w] .ex 1)) t 1 16 a L.length L.length [sv w] 1 = some (v2, H2) ∧ LAt H2 1 (some (H.n + 1)) v2 (L ++ [w]).length ((L ++ [w]).map sv) ∧
      (∀ y ob, H.m y = some ob → nm ≠ some y → H2.m y = some ob) ∧ H2.n = H.n + 2 ∧ H2.Closed := by
  have l1 : LAt (H.push (.cells [sv w] .ex 1)) 1 nm v L.length (L.map sv) := q.keep fun y e => by
    subst e
    rw [push_m, if_neg (by have := q.lt hc; omega)]
  have hcp : (H.push (.cells [sv w] .ex 1)).Closed := closed_push hc (o := .cells [sv w] .ex 1) (fun y hy => by simp at hy; rw [hy]; exact .string)
  obtain ⟨a, q, v2, H2, happ, l2, keep2, n2, c2⟩ := lat_app (t := t) (bytes := 16) (k := 1) (new := [sv w]) hcp l1 Nat.one_pos rfl (fun y hy => by simp at hy; rw [hy]; exact .string) (by omega)
  refine ⟨a, q, v2, H2, happ, ?_, fun y ob e hne => keep2 y ob (by rw [push_m, if_neg (by have := (hc y ob e).1; omega)]; exact e) hne, n2, c2⟩
  rw [List.map_append, List.length_append]; exact l2
theorem lat_slj {H : Heap} {nm : Option Nat} {v : Value} {L : List (List UInt8)} (q : LAt H 1 nm v L.length (L.map sv)) (hL : L ≠ []) : SlJ H v L := by
  rcases q with ⟨_, rfl, _, h4⟩ | ⟨x, md, e, _, rfl, h3, h4, _, hes⟩
  · exact absurd (by simpa using h4) hL
  · exact ⟨x, 0, L.length, L.map sv, md, e, rfl, h3, hes, Nat.le_refl _, by simp, fun i hi => by simp [hi]⟩
def ltOk (e : Ev) (l : List UInt8) : Bool := l.all fun c => (wv e c).2
def ltW (e : Ev) (l : List UInt8) : List (List UInt8) := l.map fun c => (wv e c).1
def lineB (e : Ev) : List UInt8 := joinB [32] (nmB e.k :: ltW e (ltB e.k))
def lineV (e : Ev) : List UInt8 × Bool := if ltOk e (ltB e.k) then (lineB e, decide (nmB e.k ≠ [])) else ([], false)
theorem lt_facts (k : Int) : (ltB k).length ≤ 3 ∧ (nmB k).length ≤ 9 ∧ ∀ c ∈ ltB k, c.toNat < 128 := by
  have : ∀ j : Fin 16, (lettersL.getD j.val []).length ≤ 3 ∧ (namesL.getD j.val []).length ≤ 9 ∧ ∀ c ∈ lettersL.getD j.val [], c.toNat < 128 := by decide
  unfold ltB nmB
  split
  · exact this ⟨k.toNat, by omega⟩
  · simp
theorem itoaB_len64 (m : Int) (h1 : -9223372036854775808 ≤ m) (h2 : m < 9223372036854775808) : (itoaB m).length ≤ 21 := by
  unfold itoaB
  split
  · have := (ndig_spec m.natAbs (by omega)).2.1
    rw [List.length_cons, dec_len]; omega
  · have := (ndig_spec m.toNat (by omega)).2.1
    rw [dec_len]; omega
theorem wv_len (e : Ev) (he : e.Ok) (c : UInt8) : (wv e c).1.length ≤ 20030 := by
  have hs := he.s
  have ha := he.a
  have hb := he.b
  have hm := he.m
  unfold wv
  split
  · show (wordB e.s).length ≤ _
    unfold wordB
    rw [List.length_cons, hexB_len]; omega
  · show (itoaB (numOf e c)).length ≤ _
    have := itoaB_len64 (numOf e c) (by unfold numOf; split <;> (try split) <;> omega) (by unfold numOf; split <;> (try split) <;> omega)
    omega
theorem sumL_ltW (e : Ev) (he : e.Ok) : ∀ l : List UInt8, sumL (ltW e l) ≤ 20030 * l.length
  | [] => by simp [sumL, ltW]
  | c :: l => by
    have := sumL_ltW e he l
    have h2 := wv_len e he c
    simp only [ltW, sumL, List.map_cons, List.sum_cons, List.length_cons] at this ⊢
    omega
structure LS where
  p : Nat
  nm : Nat
  v : Value
  H : Heap
theorem line_ok (e : Ev) (he : e.Ok) (h : Heap) : ACalls Tryd.prog 60 [.agg (ev e).toArray] h fun v h' => v = .tuple #[sv (lineV e).1, .bool (lineV e).2] ∧ h' = h := by
  refine ACalls.same (vb_tup2 .string .bool) (acalls_of mix Tryd.func60 k60 n60 (by simp) fun hcl hb => ?_)
  have f0 := cellsOf_new h (ev e) .ex 1
  have e0 := (Heap.Ext.refl h).push hcl (.cells (ev e) .ex 1)
  have c0 : (h.push (.cells (ev e) .ex 1)).Closed := closed_push hcl ev_bel
  have n0 : (h.push (.cells (ev e) .ex 1)).n = h.n + 1 := rfl
  have g0 : (ev e)[0]? = some (.int .i64 e.k) := rfl
  have hm0 : (h.push (.cells (ev e) .ex 1)).m h.n = some (.cells (ev e) .ex 1) := m_of_cells f0
  simp only [c60, s_seq, s_ops]
  simp [mc_ev, f0, apart, g0]
  generalize h.push (.cells (ev e) .ex 1) = H1 at *
  refine (form_ok e.k H1).mono ?_
  rintro _ h9 ⟨rfl, e'⟩
  rw [e']; clear e' h9
  have fil : ∀ w, afill [.string ⟨⟨[]⟩⟩] [(0, 1, sv w)] = some [sv w] := fun _ => rfl
  obtain ⟨hf1, hf2, hf3⟩ := lt_facts e.k
  have hnmB : nmB e.k = nmB e.k := rfl
  have hLV : lineV e = if ltOk e (ltB e.k) then (joinB [32] (nmB e.k :: ltW e (ltB e.k)), decide (nmB e.k ≠ [])) else ([], false) := rfl
  generalize ltB e.k = ℓ at *
  generalize nmB e.k = N at *
  have c2 : ((H1.push (.cells [sv N] .ex 1)).push (.strIter (bs ℓ) 0)).Closed := closed_push (closed_push c0 (o := .cells [sv N] .ex 1) (fun y hy => by simp at hy; rw [hy]; exact .string)) trivial
  have hme : ((H1.push (.cells [sv N] .ex 1)).push (.strIter (bs ℓ) 0)).m h.n = some (.cells (ev e) .ex 1) := by
    rw [push_m, if_neg (by show ¬ h.n = H1.n + 1; omega), push_m, if_neg (by omega)]; exact hm0
  have hmi : ((H1.push (.cells [sv N] .ex 1)).push (.strIter (bs ℓ) 0)).m (h.n + 2) = some (.strIter (bs ℓ) 0) := by
    rw [push_m]; exact if_pos (by show h.n + 2 = H1.n + 1; omega)
  have hlat : LAt ((H1.push (.cells [sv N] .ex 1)).push (.strIter (bs ℓ) 0)) 1 (some (h.n + 1)) (.slice (some ⟨h.n + 1, 0, none⟩) 1 1) 1 ([N].map sv) :=
    .inr ⟨h.n + 1, .ex, 1, rfl, rfl, by
      rw [cellsOf_ne (by show ¬ h.n + 1 = H1.n + 1; omega), ← n0]; exact cellsOf_new _ _ _ _, rfl, by decide, fun q => by cases q⟩
  have e2 := (e0.push hcl (.cells [sv N] .ex 1)).push hcl (.strIter (bs ℓ) 0)
  have n2 : ((H1.push (.cells [sv N] .ex 1)).push (.strIter (bs ℓ) 0)).n = h.n + 3 := by show H1.n + 1 + 1 = _; omega
  have hlt1 : ltW e (ℓ.take 0) = [] := rfl
  have hsvl : sv ℓ = .string (bs ℓ) := rfl
  simp [fil, hsvl, n0]
  generalize hH2 : (H1.push (.cells [sv N] .ex 1)).push (.strIter (bs ℓ) 0) = H2 at *
  refine awp_loop_of (α := LS) (fun z => z.p ≤ ℓ.length ∧ ltOk e (ℓ.take z.p) = true ∧ LAt z.H 1 (some z.nm) z.v (N :: ltW e (ℓ.take z.p)).length ((N :: ltW e (ℓ.take z.p)).map sv) ∧ Gr h z.H ∧ h.n + 3 ≤ z.H.n ∧ z.H.m h.n = some (.cells (ev e) .ex 1) ∧ z.H.m (h.n + 2) = some (.strIter (bs ℓ) z.p) ∧ h.n + 1 ≤ z.nm ∧ z.nm ≠ h.n + 2)
    (fun z => [(1, .pointer (some ⟨h.n, 0, none⟩)), (4, sv N), (6, z.v), (20, .pointer (some ⟨h.n + 2, 0, none⟩))]) (fun z => z.H) (fun z => ℓ.length - z.p) ⟨0, h.n + 1, _, H2⟩
    ⟨Nat.zero_le _, rfl, hlat, ⟨by show h.n ≤ H2.n; omega, c2, e2.m⟩, by show h.n + 3 ≤ H2.n; omega, hme, hmi, Nat.le_refl _, by show h.n + 1 ≠ h.n + 2; omega⟩ ⟨by show h.n ≤ H2.n; omega, Nat.le_refl _, fun _ _ e => e, c2⟩
    (by simp; exact ⟨.ptr (by show h.n < H2.n; omega), .string, vb_slice (by show h.n + 1 < H2.n; omega), .ptr (by show h.n + 2 < H2.n; omega)⟩) ?_
  rintro ⟨p, nm, v, H⟩ ⟨hp, hok, hl, hg, hn, hme2, hmi2, hnm, hnm2⟩
  dsimp only at hp hok hl hg hn hme2 hmi2 hnm hnm2 ⊢
  by_cases hlt : p < ℓ.length
  · have hgt : ℓ[p]? = some ℓ[p] := List.getElem?_eq_getElem hlt
    have hc128 := hf3 ℓ[p] (List.getElem_mem _)
    have htk : ℓ.take (p + 1) = ℓ.take p ++ [ℓ[p]] := List.take_succ_eq_append_getElem hlt
    have hcol : ∀ q, (H.set (h.n + 2) (.strIter (bs ℓ) q)).cellsOf h.n = some (ev e, .ex, 1) := fun q => by
      rw [cellsOf_setne _ (by omega)]; unfold Heap.cellsOf; rw [hme2]
    have hset : LAt (H.set (h.n + 2) (.strIter (bs ℓ) (p + 1))) 1 (some nm) v (N :: ltW e (ℓ.take p)).length ((N :: ltW e (ℓ.take p)).map sv) := hl.keep fun x q => by cases q; rw [set_m, if_neg hnm2]
    have hgs : Gr h (H.set (h.n + 2) (.strIter (bs ℓ) (p + 1))) := ⟨hg.n, closed_set hg.cl (by omega) trivial, fun y ob q => by
      have := (hcl y ob q).1
      rw [set_m, if_neg (by omega)]; exact hg.m y ob q⟩
    have hmis : (H.set (h.n + 2) (.strIter (bs ℓ) (p + 1))).m (h.n + 2) = some (.strIter (bs ℓ) (p + 1)) := by rw [set_m, if_pos rfl]
    have hmes : (H.set (h.n + 2) (.strIter (bs ℓ) (p + 1))).m h.n = some (.cells (ev e) .ex 1) := by rw [set_m, if_neg (by omega)]; exact hme2
    have hns : (H.set (h.n + 2) (.strIter (bs ℓ) (p + 1))).n = H.n := rfl
    have hall : ltOk e ℓ = true → (wv e ℓ[p]).2 = true := fun q => List.all_eq_true.1 q _ (List.getElem_mem _)
    generalize ℓ[p] = c at *
    simp [c60_0, hmi2, bs_data, hgt, hc128, hcol, apart, acut_ev]
    generalize H.set (h.n + 2) (.strIter (bs ℓ) (p + 1)) = Hs at *
    refine (word_ok e he c Hs).mono ?_
    rintro _ h9 ⟨rfl, e'⟩
    rw [e']; clear e' h9
    by_cases hw : (wv e c).2 = true
    · obtain ⟨a, rfl, v2, H3, happ, l2, keep2, n3, c3⟩ := lat_str1 (t := 9) hgs.cl hset (wv e c).1 (by simp [ltW]; omega)
      have hfst : ∀ w, afirst (Hs.push (.cells [sv w] .ex 1)) 1 1 (.slice (some ⟨Hs.n, 0, none⟩) 1 1) = some [sv w] := fun w => by
        simp only [afirst, cellsOf_new, if_true]
        rfl
      have hllen : (N :: ltW e (ℓ.take p)).length = p + 1 := by simp [ltW]; omega
      rw [hllen] at happ
      simp [hw, aun, fil, alen, hfst, happ, hllen]
      have hL2 : N :: ltW e (ℓ.take (p + 1)) = (N :: ltW e (ℓ.take p)) ++ [(wv e c).1] := by rw [htk]; simp [ltW]
      refine ⟨⟨p + 1, Hs.n + 1, v2, H3⟩, by show ℓ.length - (p + 1) < ℓ.length - p; omega, ⟨by show p + 1 ≤ ℓ.length; omega, ?_, ?_, ⟨by show h.n ≤ H3.n; omega, c3, fun y ob q => keep2 y ob (hgs.m y ob q) (fun w => by have := (hcl y ob q).1; cases w; omega)⟩, by show h.n + 3 ≤ H3.n; omega, keep2 _ _ hmes (fun w => by cases w; omega), keep2 _ _ hmis (fun w => hnm2 (by cases w; rfl)), by show h.n + 1 ≤ Hs.n + 1; omega, by show Hs.n + 1 ≠ h.n + 2; omega⟩, ⟨by show h.n ≤ H3.n; omega, Nat.le_refl _, fun _ _ e => e, c3⟩, .ptr (by show h.n < H3.n; omega), .string, ⟨rfl, l2.below c3⟩, .ptr (by show h.n + 2 < H3.n; omega)⟩
      · show ltOk e (ℓ.take (p + 1)) = true
        rw [htk]
        unfold ltOk at hok ⊢
        rw [List.all_append, hok]
        simp [hw]
      · show LAt H3 1 (some (Hs.n + 1)) v2 (N :: ltW e (ℓ.take (p + 1))).length ((N :: ltW e (ℓ.take (p + 1))).map sv)
        rw [hL2]; exact l2
    · have hw' : (wv e c).2 = false := by simpa using hw
      have hno : ¬ ltOk e ℓ = true := fun q => hw (hall q)
      rw [hLV, if_neg hno]
      simp [hw', aun]
      exact ⟨rfl, hgs.n, hgs.m⟩
  · have hpe : p = ℓ.length := by omega
    subst hpe
    rw [List.take_of_length_le (Nat.le_refl _)] at hok hl
    rw [hLV, if_pos hok]
    have hgt : ℓ[ℓ.length]? = none := by simp
    have hsum := sumL_ltW e he ℓ
    have hlW : (ltW e ℓ).length = ℓ.length := by simp [ltW]
    simp [c60_0, hmi2, bs_data, hgt, bs_lit]
    refine (join_ok v (N :: ltW e ℓ) [32] H (lat_slj hl (by simp)) (by simp) (by simp) (by
      have : sumL (N :: ltW e ℓ) = N.length + sumL (ltW e ℓ) := by simp [sumL]
      rw [this]
      simp [hlW]
      omega)).mono ?_
    rintro _ h9 ⟨rfl, e'⟩
    rw [e']; clear e' h9
    have hsvN : sv N = .string (bs N) := rfl
    have hdec : (!decide (bs N = bs [])) = !decide (N = []) := by rw [bs_eq_dec]
    simp [hsvN, hdec]
    exact ⟨rfl, hg.n, hg.m⟩
def c89 : AC := .seq (.ops [⟨ some 6, none, .mv (.const (.bool false)) ⟩]) (.seq (.seq (.ops [⟨ some 11, none, .mv (.tmp 1) ⟩, ⟨ some 12, none, .bin .eql (.tmp 11) (.const (.int .i32 83)) ⟩]) (.cond (.tmp 12) (.seq (.ops [⟨ some 14, none, .mv (.tmp 2) ⟩, ⟨ some 15, none, .call 110 [.tmp 14] ⟩, ⟨ some 13, none, .mv (.tmp 15) ⟩, ⟨ some 16, none, .extr (.tmp 13) 0 ⟩, ⟨ some 17, none, .extr (.tmp 13) 1 ⟩, ⟨ some 7, none, .mv (.tmp 16) ⟩, ⟨ some 8, none, .mv (.tmp 17) ⟩]) (.seq (.ops [⟨ some 18, none, .mv (.tmp 0) ⟩, ⟨ some 19, none, .mv (.tmp 7) ⟩, ⟨ some 20, none, .nilck (.tmp 18) ⟩, ⟨ some 21, none, .fAddr 2 (.tmp 20) ⟩, ⟨ none, none, .store 1 (.tmp 21) (.tmp 19) ⟩]) (.seq (.ops [⟨ some 22, none, .mv (.tmp 8) ⟩, ⟨ some 6, none, .mv (.tmp 22) ⟩]) .ret))) .skip)) (.seq (.ops [⟨ some 24, none, .mv (.tmp 2) ⟩, ⟨ some 25, none, .call 56 [.tmp 24] ⟩, ⟨ some 23, none, .mv (.tmp 25) ⟩, ⟨ some 26, none, .extr (.tmp 23) 0 ⟩, ⟨ some 27, none, .extr (.tmp 23) 1 ⟩, ⟨ some 9, none, .mv (.tmp 26) ⟩, ⟨ some 10, none, .mv (.tmp 27) ⟩]) (.seq (.seq (.ops [⟨ some 28, none, .mv (.tmp 1) ⟩]) (.block 0 (.seq (.ops [⟨ some 34, none, .bin .eql (.tmp 28) (.const (.int .i32 66)) ⟩, ⟨ some 33, none, .mv (.tmp 34) ⟩]) (.cond (.tmp 33) (.ops [⟨ some 35, none, .mv (.tmp 0) ⟩, ⟨ some 36, none, .mv (.tmp 9) ⟩, ⟨ some 37, none, .nilck (.tmp 35) ⟩, ⟨ some 38, none, .fAddr 3 (.tmp 37) ⟩, ⟨ some 39, none, .fAddr 0 (.tmp 38) ⟩, ⟨ none, none, .store 1 (.tmp 39) (.tmp 36) ⟩]) (.seq (.ops [⟨ some 41, none, .bin .eql (.tmp 28) (.const (.int .i32 77)) ⟩, ⟨ some 40, none, .mv (.tmp 41) ⟩]) (.cond (.tmp 40) (.ops [⟨ some 42, none, .mv (.tmp 0) ⟩, ⟨ some 43, none, .mv (.tmp 9) ⟩, ⟨ some 44, none, .toInt .u8 (.tmp 43) ⟩, ⟨ some 45, none, .nilck (.tmp 42) ⟩, ⟨ some 46, none, .fAddr 3 (.tmp 45) ⟩, ⟨ some 47, none, .fAddr 1 (.tmp 46) ⟩, ⟨ none, none, .store 1 (.tmp 47) (.tmp 44) ⟩]) (.ops [⟨ some 29, none, .mv (.tmp 0) ⟩, ⟨ some 30, none, .mv (.tmp 9) ⟩, ⟨ some 31, none, .nilck (.tmp 29) ⟩, ⟨ some 32, none, .fAddr 1 (.tmp 31) ⟩, ⟨ none, none, .store 1 (.tmp 32) (.tmp 30) ⟩]))))))) (.seq (.ops [⟨ some 48, none, .mv (.tmp 10) ⟩, ⟨ some 49, none, .eqv false .ifc (.tmp 48) (.const .nilIface) ⟩, ⟨ some 6, none, .mv (.tmp 49) ⟩]) .ret))))
theorem k89 : compF Tryd.prog Tryd.f89 = some (c89, [6]) := by kernel_rfl
theorem n89 : Tryd.f89.ntmps = 50 := by kernel_rfl
/-! a part of an event is set -/
def putN (e : Ev) (c : UInt8) (x : Int) : Ev := if c = 66 then { e with b := x } else if c = 77 then { e with m := IntKind.u8.wrap x } else { e with a := x }
def SetR (e : Ev) (c : UInt8) (w : List UInt8) (e2 : Ev) (ok : Bool) : Prop :=
  (c = 83 ∧ ∃ b, e2 = { e with s := b } ∧ b.length ≤ w.length ∧ ∀ S, w = wordB S → b = S ∧ ok = true) ∨
  (c ≠ 83 ∧ ∃ x, IntKind.i64.wrap x = x ∧ e2 = putN e c x ∧ ∀ m : Int, -100000000000000000 < m → m < 100000000000000000 → w = itoaB m → x = m ∧ ok = true)
theorem ev_put (e : Ev) : (∀ b, aput (ev e) 2 [.string (bs b)] = ev { e with s := b }) ∧ (∀ x, aput (ev e) 3 [.int .i64 x] = ev { e with b := x }) ∧ (∀ x, aput (ev e) 4 [.int .u8 x] = ev { e with m := x }) ∧ (∀ x, aput (ev e) 1 [.int .i64 x] = ev { e with a := x }) :=
  ⟨fun _ => rfl, fun _ => rfl, fun _ => rfl, fun _ => rfl⟩
theorem set_ok (e : Ev) (x : Nat) (md : BMode) (ez : Nat) (c : UInt8) (w : List UInt8) (hw : w.length ≤ 10000) (h : Heap) (hx : h.cellsOf x = some (ev e, md, ez)) (hmd : md ≠ .ro) :
    ACalls Tryd.prog 89 [.pointer (some ⟨x, 0, none⟩), .int .i32 (c.toNat : Int), .string (bs w)] h fun v h' => ∃ e2 ok, v = .bool ok ∧ h' = h.set x (.cells (ev e2) md ez) ∧ SetR e c w e2 ok := by
  refine acalls_of mix Tryd.func89 k89 n89 (by simp) fun hcl hb => ?_
  have hl5 : (ev e).length = 5 := rfl
  obtain ⟨p1, p2, p3, p4⟩ := ev_put e
  have c83 : ((c.toNat : Int) = 83) = (c = 83) := by
    apply propext
    refine ⟨fun q => UInt8.toNat_inj.1 ?_, fun q => by rw [q]; rfl⟩
    have : (83 : UInt8).toNat = 83 := rfl
    omega
  have c66 : ((c.toNat : Int) = 66) = (c = 66) := by
    apply propext
    refine ⟨fun q => UInt8.toNat_inj.1 ?_, fun q => by rw [q]; rfl⟩
    have : (66 : UInt8).toNat = 66 := rfl
    omega
  have c77 : ((c.toNat : Int) = 77) = (c = 77) := by
    apply propext
    refine ⟨fun q => UInt8.toNat_inj.1 ?_, fun q => by rw [q]; rfl⟩
    have : (77 : UInt8).toNat = 77 := rfl
    omega
  by_cases q83 : c = 83
  · simp [c89, c83, q83]
    refine (lbytes_ok w (by omega) h).mono ?_
    rintro _ h9 ⟨⟨⟨b, ok, rfl, hbl⟩, hrb⟩, e'⟩
    rw [e']; clear e' h9
    have hsb : sv b = .string (bs b) := rfl
    have hrb' : ∀ S, w = wordB S → b = S ∧ ok = true := fun S hS => by
      have := hrb S hS
      simp [sv, bs_inj] at this
      exact this
    cases ok
    · simp [hx, hmd, hl5, mcells, hsb, p1]
      exact ⟨_, rfl, .inl ⟨rfl, b, rfl, hbl, hrb'⟩⟩
    · simp [hx, hmd, hl5, mcells, hsb, p1]
      exact ⟨_, rfl, .inl ⟨rfl, b, rfl, hbl, hrb'⟩⟩
  · simp [c89, c83, q83]
    refine (atoi_ok w (by omega) h).mono ?_
    rintro _ h9 ⟨⟨⟨y, er, rfl, her, hyw⟩, hrd⟩, e'⟩
    rw [e']; clear e' h9
    have hR : ∀ ok : Bool, (er = .nilIface → ok = true) → SetR e c w (putN e c y) ok := fun ok hok => .inr ⟨q83, y, hyw, rfl, fun m m1 m2 hm => by
      have := hrd m m1 m2 hm
      simp at this
      exact ⟨this.1, hok this.2⟩⟩
    by_cases q66 : c = 66
    · rcases her with rfl | rfl
      · simp [hx, hmd, hl5, mcells, c66, q66, p2, aeq]
        have := hR true (fun _ => rfl)
        rw [q66] at this
        exact ⟨_, rfl, this⟩
      · simp [hx, hmd, hl5, mcells, c66, q66, p2, aeq]
        have := hR false (fun q => by cases q)
        rw [q66] at this
        exact ⟨_, rfl, this⟩
    · by_cases q77 : c = 77
      · rcases her with rfl | rfl
        · simp [hx, hmd, hl5, mcells, c66, c77, q66, q77, p3, aeq]
          have := hR true (fun _ => rfl)
          rw [q77] at this
          exact ⟨_, rfl, this⟩
        · simp [hx, hmd, hl5, mcells, c66, c77, q66, q77, p3, aeq]
          have := hR false (fun q => by cases q)
          rw [q77] at this
          exact ⟨_, rfl, this⟩
      · have hpn : putN e c y = { e with a := y } := by unfold putN; rw [if_neg q66, if_neg q77]
        rw [hpn] at hR
        rcases her with rfl | rfl
        · simp [hx, hmd, hl5, mcells, c66, c77, q66, q77, p4, aeq]
          exact ⟨_, rfl, hR true (fun _ => rfl)⟩
        · simp [hx, hmd, hl5, mcells, c66, c77, q66, q77, p4, aeq]
          exact ⟨_, rfl, hR false (fun q => by cases q)⟩
def c61_2 : AC := .seq (.ops [⟨ some 39, none, .nextS (.tmp 38) ⟩, ⟨ some 40, none, .extr (.tmp 39) 0 ⟩]) (.seq (.cond (.tmp 40) .skip (.exit 2)) (.block 3 (.seq (.ops [⟨ some 41, none, .extr (.tmp 39) 1 ⟩, ⟨ some 42, none, .extr (.tmp 39) 2 ⟩, ⟨ some 9, none, .mv (.tmp 41) ⟩, ⟨ some 10, none, .mv (.tmp 42) ⟩]) (.seq (.ops [⟨ some 43, none, .mv (.tmp 10) ⟩, ⟨ some 44, none, .mv (.tmp 4) ⟩, ⟨ some 45, none, .mv (.tmp 9) ⟩, ⟨ some 46, none, .bin .add (.tmp 45) (.const (.int .i64 1)) ⟩, ⟨ some 47, none, .iAddrS 1 (.tmp 44) (.tmp 46) ⟩, ⟨ some 48, none, .load none (.tmp 47) ⟩, ⟨ some 49, none, .call 89 [.tmp 8, .tmp 43, .tmp 48] ⟩, ⟨ some 50, none, .un .not (.tmp 49) ⟩]) (.cond (.tmp 50) (.seq (.ops [⟨ some 51, none, .build [.int .i64 0, .int .i64 0, .string ⟨ ⟨[] ⟩ ⟩, .int .i64 0, .int .u8 0] [] ⟩, ⟨ none, none, .store 5 (.tmp 2) (.tmp 51) ⟩, ⟨ some 3, none, .mv (.const (.bool false)) ⟩]) .ret) .skip)))))
def c61_0 : AC := .seq (.seq (.ops [⟨ some 13, none, .mv (.tmp 5) ⟩, ⟨ some 14, none, .bin .leq (.tmp 13) (.const (.int .i64 15)) ⟩]) (.cond (.tmp 14) .skip (.exit 0))) (.seq (.block 1 (.seq (.ops [⟨ some 18, none, .mv (.tmp 5) ⟩, ⟨ some 19, none, .call 87 [.tmp 18] ⟩, ⟨ some 17, none, .mv (.tmp 19) ⟩, ⟨ some 20, none, .extr (.tmp 17) 0 ⟩, ⟨ some 21, none, .extr (.tmp 17) 1 ⟩, ⟨ some 6, none, .mv (.tmp 20) ⟩, ⟨ some 7, none, .mv (.tmp 21) ⟩]) (.seq (.seq (.ops [⟨ some 22, none, .mv (.tmp 6) ⟩, ⟨ some 23, none, .mv (.tmp 4) ⟩, ⟨ some 24, none, .iAddrS 1 (.tmp 23) (.const (.int .i64 0)) ⟩, ⟨ some 25, none, .load none (.tmp 24) ⟩, ⟨ some 26, none, .bin .neq (.tmp 22) (.tmp 25) ⟩, ⟨ some 27, none, .mv (.tmp 26) ⟩, ⟨ some 28, some (27, false), .mv (.tmp 7) ⟩, ⟨ some 29, some (27, false), .lenS true (.tmp 28) ⟩, ⟨ some 30, some (27, false), .mv (.tmp 4) ⟩, ⟨ some 31, some (27, false), .lenS false (.tmp 30) ⟩, ⟨ some 32, some (27, false), .bin .sub (.tmp 31) (.const (.int .i64 1)) ⟩, ⟨ some 33, some (27, false), .bin .neq (.tmp 29) (.tmp 32) ⟩, ⟨ some 34, none, .pick (.tmp 27) (.const (.bool true)) (.tmp 33) ⟩]) (.cond (.tmp 34) (.exit 1) .skip)) (.seq (.ops [⟨ some 35, none, .mv (.tmp 5) ⟩, ⟨ some 36, none, .build [.int .i64 0, .int .i64 0, .string ⟨ ⟨[] ⟩ ⟩, .int .i64 0, .int .u8 0] [(0, 1, .tmp 35)] ⟩, ⟨ some 8, none, .alloc [.int .i64 0, .int .i64 0, .string ⟨ ⟨[] ⟩ ⟩, .int .i64 0, .int .u8 0] ⟩, ⟨ none, none, .store 5 (.tmp 8) (.tmp 36) ⟩]) (.seq (.seq (.ops [⟨ some 37, none, .mv (.tmp 7) ⟩, ⟨ some 38, none, .rangeS (.tmp 37) ⟩]) (.block 2 (.loop c61_2))) (.seq (.ops [⟨ some 52, none, .load (some 5) (.tmp 8) ⟩, ⟨ none, none, .store 5 (.tmp 2) (.tmp 52) ⟩, ⟨ some 3, none, .mv (.const (.bool true)) ⟩]) .ret)))))) (.ops [⟨ some 15, none, .mv (.tmp 5) ⟩, ⟨ some 16, none, .bin .add (.tmp 15) (.const (.int .i64 1)) ⟩, ⟨ some 5, none, .mv (.tmp 16) ⟩]))
def c61 : AC := .seq (.ops [⟨ some 2, none, .alloc [.int .i64 0, .int .i64 0, .string ⟨ ⟨[] ⟩ ⟩, .int .i64 0, .int .u8 0] ⟩, ⟨ some 3, none, .mv (.const (.bool false)) ⟩]) (.seq (.ops [⟨ some 11, none, .mv (.tmp 0) ⟩, ⟨ some 12, none, .call 36 [.tmp 11, .const (.string ⟨ ⟨[32] ⟩ ⟩)] ⟩, ⟨ some 4, none, .mv (.tmp 12) ⟩]) (.seq (.seq (.ops [⟨ some 5, none, .mv (.const (.int .i64 1)) ⟩]) (.block 0 (.loop c61_0))) (.seq (.ops [⟨ some 53, none, .build [.int .i64 0, .int .i64 0, .string ⟨ ⟨[] ⟩ ⟩, .int .i64 0, .int .u8 0] [] ⟩, ⟨ none, none, .store 5 (.tmp 2) (.tmp 53) ⟩, ⟨ some 3, none, .mv (.const (.bool false)) ⟩]) .ret)))
theorem k61 : compR Tryd.prog Tryd.f61 = some (c61, [.c 2 (some 5), .t 3]) := by kernel_rfl
theorem n61 : Tryd.f61.ntmps = 54 := by kernel_rfl
/-! lines that are right -/
structure CleanE (e : Ev) : Prop where
  k : 1 ≤ e.k ∧ e.k ≤ 15
  a : (65 : UInt8) ∉ ltB e.k → e.a = 0
  b : (66 : UInt8) ∉ ltB e.k → e.b = 0
  m : (77 : UInt8) ∉ ltB e.k → e.m = 0
  s : (83 : UInt8) ∉ ltB e.k → e.s = []
structure RightE (e : Ev) : Prop where
  cl : CleanE e
  w : ltOk e (ltB e.k) = true
  m : 0 ≤ e.m ∧ e.m < 256
theorem dec_no (c : UInt8) (hc : c.toNat < 48) (u : Nat) : c ∉ dec u := fun q => by
  have := dec_dig u c q
  unfold isDig at this
  omega
theorem itoaB_no32 (n : Int) : (32 : UInt8) ∉ itoaB n := by
  unfold itoaB
  split
  · simp only [List.mem_cons, not_or]
    exact ⟨by decide, dec_no 32 (by decide) _⟩
  · exact dec_no 32 (by decide) _
theorem dg_facts (k : Nat) : (dg k).toNat = 0 ∨ 48 ≤ (dg k).toNat := by
  unfold dg
  by_cases h : k < 16
  · have : ∀ j : Fin 16, 48 ≤ (digs.getD j.val 0).toNat := by decide
    exact .inr (this ⟨k, h⟩)
  · have : digs.getD k 0 = 0 := by rw [List.getD, List.getElem?_eq_none (by show 16 ≤ k; omega)]; rfl
    rw [this]; exact .inl rfl
theorem hexB_no (c : UInt8) (hc : 0 < c.toNat ∧ c.toNat < 48) (s : List UInt8) : c ∉ hexB s := fun q => by
  unfold hexB at q
  obtain ⟨b, _, hb⟩ := List.mem_flatMap.1 q
  simp only [List.mem_cons, List.not_mem_nil, or_false] at hb
  rcases hb with rfl | rfl
  · have := dg_facts (b.toNat / 16); omega
  · have := dg_facts (b.toNat % 16); omega
theorem wordB_no32 (s : List UInt8) : (32 : UInt8) ∉ wordB s := by
  unfold wordB
  simp only [List.mem_cons, not_or]
  exact ⟨by decide, hexB_no 32 (by decide) s⟩
theorem wv_no32 (e : Ev) (c : UInt8) : (32 : UInt8) ∉ (wv e c).1 := by
  unfold wv
  split
  · exact wordB_no32 _
  · exact itoaB_no32 _
theorem split_join (c : UInt8) : ∀ (r : List (List UInt8)) (a : List UInt8), c ∉ a → (∀ x ∈ r, c ∉ x) → splitB c (joinB [c] (a :: r)) = a :: r
  | [], a, ha, _ => by
    show splitB c (a ++ []) = _
    rw [List.append_nil, split_none ha]
  | b :: r, a, ha, hr => by
    have ih := split_join c r b (hr b (by simp)) (fun x hx => hr x (by simp [hx]))
    have : joinB [c] (a :: b :: r) = a ++ c :: joinB [c] (b :: r) := by simp [joinB]
    rw [this, split_at ha, ih]
theorem nm_facts : (∀ i j : Fin 16, 1 ≤ i.val → 1 ≤ j.val → namesL.getD i.val [] = namesL.getD j.val [] → i = j) ∧ (∀ i : Fin 16, (32 : UInt8) ∉ namesL.getD i.val [] ∧ (1 ≤ i.val → namesL.getD i.val [] ≠ []) ∧ ∀ c ∈ lettersL.getD i.val [], c = 65 ∨ c = 66 ∨ c = 77 ∨ c = 83) := by
  constructor
  · decide
  · decide
theorem nmB_inj {i j : Int} (hi : 1 ≤ i ∧ i ≤ 15) (hj : 1 ≤ j ∧ j ≤ 15) (h : nmB i = nmB j) : i = j := by
  unfold nmB at h
  rw [if_pos hi, if_pos hj] at h
  have := nm_facts.1 ⟨i.toNat, by omega⟩ ⟨j.toNat, by omega⟩ (by show 1 ≤ i.toNat; omega) (by show 1 ≤ j.toNat; omega) h
  have := congrArg Fin.val this
  dsimp only at this
  omega
theorem nmB_no32 (k : Int) : (32 : UInt8) ∉ nmB k := by
  unfold nmB
  split
  · exact (nm_facts.2 ⟨k.toNat, by omega⟩).1
  · simp
theorem nmB_ne {k : Int} (hk : 1 ≤ k ∧ k ≤ 15) : nmB k ≠ [] := by
  unfold nmB
  rw [if_pos hk]
  exact (nm_facts.2 ⟨k.toNat, by omega⟩).2.1 (by show 1 ≤ k.toNat; omega)
theorem ltB_mem {k : Int} : ∀ c ∈ ltB k, c = 65 ∨ c = 66 ∨ c = 77 ∨ c = 83 := by
  unfold ltB
  split
  · exact (nm_facts.2 ⟨k.toNat, by omega⟩).2.2
  · simp
theorem line_split (e : Ev) : splitB 32 (lineB e) = nmB e.k :: ltW e (ltB e.k) :=
  split_join 32 _ _ (nmB_no32 _) (fun x hx => by
    unfold ltW at hx
    obtain ⟨c, _, rfl⟩ := List.mem_map.1 hx
    exact wv_no32 e c)
def zE (k : Int) : Ev := ⟨k, 0, [], 0, 0⟩
/-- a letter's part of another event -/
def cpy (e' e : Ev) (c : UInt8) : Ev := if c = 83 then { e with s := e'.s } else if c = 66 then { e with b := e'.b } else if c = 77 then { e with m := e'.m } else { e with a := e'.a }
theorem cpy_all {e' : Ev} (h : CleanE e') : (ltB e'.k).foldl (cpy e') (zE e'.k) = e' := by
  obtain ⟨k, a, s, b, m⟩ := e'
  obtain ⟨h1, h2, h3, h4, h5⟩ := h
  dsimp only at h1 h2 h3 h4 h5 ⊢
  have hk : k = 1 ∨ k = 2 ∨ k = 3 ∨ k = 4 ∨ k = 5 ∨ k = 6 ∨ k = 7 ∨ k = 8 ∨ k = 9 ∨ k = 10 ∨ k = 11 ∨ k = 12 ∨ k = 13 ∨ k = 14 ∨ k = 15 := by omega
  rcases hk with rfl | rfl | rfl | rfl | rfl | rfl | rfl | rfl | rfl | rfl | rfl | rfl | rfl | rfl | rfl
  all_goals
    first
    | (have e1 : (65 : UInt8) ∉ ltB _ := by assumption) | skip
    simp [ltB, lettersL] at h2 h3 h4 h5
    simp [ltB, lettersL, cpy, zE]
  all_goals simp_all
def RdR (s : List UInt8) (e : Ev) (ok : Bool) : Prop := e.Ok ∧ (ok = true → CleanE e ∧ s ≠ []) ∧ ∀ e', RightE e' → s = lineB e' → ok = true ∧ e = e'
theorem step_right {e e2 e' : Ev} {c : UInt8} {w : List UInt8} {ok : Bool} (hs : SetR e c w e2 ok) (hm : 0 ≤ e'.m ∧ e'.m < 256) (hw : w = (wv e' c).1) (hk : (wv e' c).2 = true) : ok = true ∧ e2 = cpy e' e c := by
  rcases hs with ⟨rfl, b, rfl, _, h1⟩ | ⟨hc, x, _, rfl, h1⟩
  · obtain ⟨h2, h3⟩ := h1 e'.s (by rw [hw]; rfl)
    subst h2
    exact ⟨h3, rfl⟩
  · have hwv : wv e' c = (itoaB (numOf e' c), fitI (numOf e' c)) := by unfold wv; rw [if_neg hc]
    rw [hwv] at hw hk
    have hf : -1000000 ≤ numOf e' c ∧ numOf e' c ≤ 1000000 := by simpa [fitI] using hk
    obtain ⟨h2, h3⟩ := h1 (numOf e' c) (by omega) (by omega) hw
    refine ⟨h3, ?_⟩
    rw [h2]
    unfold putN cpy numOf
    rw [if_neg hc]
    by_cases q66 : c = 66
    · simp [q66]
    · by_cases q77 : c = 77
      · have : IntKind.u8.wrap e'.m = e'.m := by unfold IntKind.wrap; simp [IntKind.bits, IntKind.signed]; omega
        simp [q77, this]
      · simp [q66, q77]
theorem wrap_rng {x : Int} (h : IntKind.i64.wrap x = x) : -9223372036854775808 ≤ x ∧ x < 9223372036854775808 := by
  unfold IntKind.wrap at h
  simp [IntKind.bits, IntKind.signed] at h
  omega
theorem wrap8_rng (x : Int) : 0 ≤ IntKind.u8.wrap x ∧ IntKind.u8.wrap x < 256 := by
  unfold IntKind.wrap
  simp [IntKind.bits, IntKind.signed]
  omega
/-- letters that were not read are as they were -/
structure MidE (k : Int) (n : Nat) (ℓ : List UInt8) (e : Ev) : Prop where
  k : e.k = k
  ok : e.Ok
  s : e.s.length ≤ n
  a0 : (65 : UInt8) ∉ ℓ → e.a = 0
  b0 : (66 : UInt8) ∉ ℓ → e.b = 0
  m0 : (77 : UInt8) ∉ ℓ → e.m = 0
  s0 : (83 : UInt8) ∉ ℓ → e.s = []
theorem step_mid {k : Int} {n : Nat} {ℓ : List UInt8} {e e2 : Ev} {c : UInt8} {w : List UInt8} {ok : Bool} (h : MidE k n ℓ e) (hs : SetR e c w e2 ok) (hc : c ∈ ℓ) (hl : c = 65 ∨ c = 66 ∨ c = 77 ∨ c = 83) (hw : w.length ≤ n) (hn : n ≤ 10000) : MidE k n ℓ e2 := by
  obtain ⟨h1, ⟨k1, k2, k3, k4, k5⟩, h3, h4, h5, h6, h7⟩ := h
  rcases hs with ⟨rfl, b, rfl, hb, _⟩ | ⟨hc', x, hx, rfl, _⟩
  · exact ⟨h1, ⟨k1, k2, k3, k4, by show b.length ≤ 10000; omega⟩, by show b.length ≤ n; omega, h4, h5, h6, fun q => absurd hc q⟩
  · have hr := wrap_rng hx
    have h8 := wrap8_rng x
    rcases hl with rfl | rfl | rfl | rfl
    · exact ⟨h1, ⟨k1, hr, k3, k4, k5⟩, h3, fun q => absurd hc q, h5, h6, h7⟩
    · exact ⟨h1, ⟨k1, k2, hr, k4, k5⟩, h3, h4, fun q => absurd hc q, h6, h7⟩
    · exact ⟨h1, ⟨k1, k2, k3, h8, k5⟩, h3, h4, h5, fun q => absurd hc q, h7⟩
    · exact absurd rfl hc'
theorem mid_start {k : Int} (hk : 1 ≤ k ∧ k ≤ 15) (n : Nat) (ℓ : List UInt8) : MidE k n ℓ (zE k) :=
  ⟨rfl, ⟨⟨by show _ ≤ k; omega, by show k < _; omega⟩, ⟨by show (_ : Int) ≤ 0; omega, by show (0 : Int) < _; omega⟩, ⟨by show (_ : Int) ≤ 0; omega, by show (0 : Int) < _; omega⟩, ⟨Int.le_refl _, by show (0 : Int) < _; omega⟩, Nat.zero_le _⟩, Nat.zero_le _, fun _ => rfl, fun _ => rfl, fun _ => rfl, fun _ => rfl⟩
theorem mid_clean {k : Int} (hk : 1 ≤ k ∧ k ≤ 15) {n : Nat} {e : Ev} (h : MidE k n (ltB k) e) : CleanE e := by
  obtain ⟨h1, _, _, h4, h5, h6, h7⟩ := h
  subst h1
  exact ⟨hk, h4, h5, h6, h7⟩
def RdV (s : List UInt8) (v : Value) : Prop := ∃ e ok, v = .tuple #[.agg (ev e).toArray, .bool ok] ∧ RdR s e ok
theorem set_push1 (h : Heap) (o o' o2 : AObj) : ((h.push o).push o2).set h.n o' = (h.push o').push o2 := by
  unfold Heap.set Heap.push
  congr 1
  funext x
  dsimp only
  by_cases h1 : x = h.n
  · subst h1
    rw [if_pos rfl, if_neg (by omega), if_pos rfl]
  · rw [if_neg h1]
    by_cases h2 : x = h.n + 1
    · rw [if_pos h2, if_pos h2]
    · rw [if_neg h2, if_neg h2, if_neg h1, if_neg h1]
structure KS where
  i : Nat
structure ES where
  p : Nat
  e : Ev
theorem read_ok (s : List UInt8) (hs : s.length ≤ 10000) (h : Heap) : ACalls Tryd.prog 61 [.string (bs s)] h fun v h' => RdV s v ∧ h' = h := by
  refine ACalls.same' (R := RdV s) (fun v hv => ?_) (acalls_ofR mix Tryd.func61 k61 n61 (by simp) fun hcl hb => ?_)
  · obtain ⟨e, ok, rfl, _⟩ := hv
    exact vb_tup2 (ev_agg _ _) .bool
  have zz : ([.int .i64 0, .int .i64 0, .string (bs []), .int .i64 0, .int .u8 0] : List Value) = ev (zE 0) := rfl
  have zz2 : afill [.int .i64 0, .int .i64 0, .string (bs []), .int .i64 0, .int .u8 0] [] = some (ev (zE 0)) := rfl
  have zz3 : ∀ k : Int, afill (ev (zE 0)) [(0, 1, .int .i64 k)] = some (ev (zE k)) := fun _ => rfl
  have zz4 : afill (ev (zE 0)) [] = some (ev (zE 0)) := rfl
  have hl5 : ∀ e, (ev e).length = 5 := fun _ => rfl
  have hpe : ∀ e e2, aput (ev e) 0 (ev e2) = ev e2 := fun _ _ => rfl
  have okz : (zE 0).Ok := ⟨⟨by show _ ≤ (0 : Int); omega, by show (0 : Int) < _; omega⟩, ⟨by show (_ : Int) ≤ 0; omega, by show (0 : Int) < _; omega⟩, ⟨by show (_ : Int) ≤ 0; omega, by show (0 : Int) < _; omega⟩, ⟨Int.le_refl _, by show (0 : Int) < _; omega⟩, Nat.zero_le _⟩
  have hf0 := cellsOf_new h (ev (zE 0)) .ex 1
  have hcz := closed_push (o := .cells (ev (zE 0)) .ex 1) hcl ev_bel
  have e0 := (Heap.Ext.refl h).push hcl (.cells (ev (zE 0)) .ex 1)
  have n0 : (h.push (.cells (ev (zE 0)) .ex 1)).n = h.n + 1 := rfl
  simp only [c61, s_seq, s_ops]
  simp [zz, bs_lit]
  generalize h.push (.cells (ev (zE 0)) .ex 1) = H0 at *
  refine (splitS_ok s 32 H0 (by omega)).mono ?_
  rintro _ h9 ⟨rfl, e⟩
  rw [e]; clear e h9
  have hsl := split_len 32 s
  generalize hM : s.count 32 = M at *
  have hML : M ≤ 10000 := by have := List.count_le_length (a := (32 : UInt8)) (l := s); omega
  have hf1 := cellsOf_new H0 ((splitB 32 s).map sv) .ex 1
  have hf2 : (H0.push (.cells ((splitB 32 s).map sv) .ex 1)).cellsOf h.n = some (ev (zE 0), .ex, 1) := by rw [cellsOf_ne (by omega)]; exact hf0
  have hcl1 : (H0.push (.cells ((splitB 32 s).map sv) .ex 1)).Closed := closed_push hcz fun x hx => by obtain ⟨y, _, rfl⟩ := List.mem_map.1 hx; exact .string
  have e1 := e0.push hcl (.cells ((splitB 32 s).map sv) .ex 1)
  have e3 : ∀ H : Heap, h.Ext H → ∀ o, h.Ext (H.set h.n o) := fun H q o => ⟨q.n, fun b ob eb => by have := (hcl b ob eb).1; rw [set_m, if_neg (by omega)]; exact q.m b ob eb⟩
  have n1 : (H0.push (.cells ((splitB 32 s).map sv) .ex 1)).n = h.n + 2 := by show H0.n + 1 = _; omega
  have hn0' : H0.n = h.n + 1 := n0
  have hspl := split_le 32 s
  have hright : ∀ e', RightE e' → s = lineB e' → splitB 32 s = nmB e'.k :: ltW e' (ltB e'.k) := fun e' _ q => by rw [q]; exact line_split e'
  have hnil : s = [] → splitB 32 s = [[]] := fun q => by rw [q]; rfl
  generalize splitB 32 s = L at *
  generalize hH1 : H0.push (.cells (L.map sv) .ex 1) = H1 at *
  rw [hn0'] at hf1
  simp [hn0']
  obtain ⟨l0, L', rfl⟩ : ∃ l0 L', L = l0 :: L' := by
    cases L with
    | nil => simp at hsl
    | cons a b => exact ⟨a, b, rfl⟩
  have hL' : L'.length = M := by simpa using hsl
  refine awp_loop_of (α := KS) (fun z => 1 ≤ z.i ∧ z.i ≤ 16 ∧ ∀ j : Int, 1 ≤ j → j < z.i → ¬ (nmB j = l0 ∧ (ltB j).length = M))
    (fun z => [(2, .pointer (some ⟨h.n, 0, none⟩)), (4, .slice (some ⟨h.n + 1, 0, none⟩) (M + 1) (M + 1)), (5, .int .i64 z.i)]) (fun _ => H1) (fun z => 16 - z.i) ⟨1⟩
    ⟨Nat.le_refl _, by show 1 ≤ 16; omega, fun j h1 h2 => by exfalso; have : j < 1 := h2; omega⟩ ⟨by show h.n ≤ H1.n; omega, Nat.le_refl _, fun _ _ e => e, hcl1⟩ (by simp; exact ⟨.ptr (by show h.n < H1.n; omega), vb_slice (by show h.n + 1 < H1.n; omega), .int⟩) ?_
  rintro ⟨i⟩ ⟨hi1, hi16, hno⟩
  dsimp only at hi1 hi16 hno ⊢
  by_cases hlt : i ≤ 15
  · have hi' : (i : Int) ≤ 15 := by omega
    have w4 : IntKind.i64.wrap ((i : Int) + 1) = ((i + 1 : Nat) : Int) := w1 i (by omega)
    have w5 : IntKind.i64.wrap (M : Int) = (M : Int) := i64w M (by omega)
    have w6' : IntKind.i64.wrap (((M + 1 : Nat) : Int) - 1) = (M : Int) := by rw [Int.natCast_add]; show IntKind.i64.wrap ((M : Int) + 1 - 1) = _; rw [Int.add_sub_cancel]; exact w5
    have w6 : IntKind.i64.wrap ((M : Int) + 1 - 1) = (M : Int) := by rw [Int.add_sub_cancel]; exact w5
    have hnx : ¬ (nmB i = l0 ∧ (ltB i).length = M) → ∃ y : KS, 16 - y.i < 16 - i ∧ (1 ≤ y.i ∧ y.i ≤ 16 ∧ ∀ j : Int, 1 ≤ j → j < y.i → nmB j = l0 → ¬ (ltB j).length = M) ∧ H1.Sub h.n H1 ∧
        VBelow H1.n (.pointer (some ⟨h.n, 0, none⟩)) ∧ VBelow H1.n (.slice (some ⟨h.n + 1, 0, none⟩) (M + 1) (M + 1)) ∧ ((i + 1 : Nat) : Int) = y.i ∧ VBelow H1.n (.int .i64 y.i) := fun q =>
      ⟨⟨i + 1⟩, by show 16 - (i + 1) < 16 - i; omega, ⟨by show 1 ≤ i + 1; omega, by show i + 1 ≤ 16; omega, fun j h1 h2 q1 q2 => by
        have h2' : j < ((i + 1 : Nat) : Int) := h2
        by_cases hji : j = i
        · subst hji; exact q ⟨q1, q2⟩
        · exact hno j h1 (by omega) ⟨q1, q2⟩⟩, ⟨by omega, Nat.le_refl _, fun _ _ e => e, hcl1⟩, .ptr (by show h.n < H1.n; omega), vb_slice (by show h.n + 1 < H1.n; omega), rfl, .int⟩
    have i0 : aidx (.int .i64 0) (M + 1) = some 0 := aidx_of (i := 0) (by omega)
    simp [c61_0, hi']
    refine (form_ok (i : Int) H1).mono ?_
    rintro _ h9 ⟨rfl, e⟩
    rw [e]; clear e h9
    have hsvn : sv (nmB i) = .string (bs (nmB i)) := rfl
    have hsvl : sv (ltB i) = .string (bs (ltB i)) := rfl
    have hsv0 : sv l0 = .string (bs l0) := rfl
    by_cases hn : nmB i = l0
    · by_cases hl : (ltB i).length = M
      · have hl' : ((ltB i).length : Int) = M := by omega
        simp [hsvn, hsvl, hsv0, i0, hf1, apart, hn, bs_size, w6, w6', hl', zz, bs_lit, zz3, cellsOf_new, mc_ev, hl5, hpe, set_push, -Int.natCast_add]
        generalize hℓ : ltB (i : Int) = ℓ at *
        have hmem : ∀ c ∈ ℓ, (c = 65 ∨ c = 66 ∨ c = 77 ∨ c = 83) ∧ c.toNat < 128 := fun c hc => by
          rw [← hℓ] at hc
          exact ⟨ltB_mem c hc, (lt_facts i).2.2 c hc⟩
        have hk' : (1 : Int) ≤ i ∧ (i : Int) ≤ 15 := by omega
        have hr2 : ∀ e', RightE e' → s = lineB e' → e'.k = i ∧ L' = ltW e' ℓ := fun e' h1 h2 => by
          have := hright e' h1 h2
          simp only [List.cons.injEq] at this
          have hki := nmB_inj hk' h1.cl.k (hn.trans this.1)
          rw [← hki, hℓ] at this
          exact ⟨hki.symm, this.2⟩
        have hHc : ∀ e p, ((H1.push (.cells (ev e) .ex 1)).push (.strIter (bs ℓ) p)).Closed := fun e p => closed_push (closed_push hcl1 ev_bel) trivial
        have hHn : ∀ e p, ((H1.push (.cells (ev e) .ex 1)).push (.strIter (bs ℓ) p)).n = h.n + 4 := fun e p => by show H1.n + 1 + 1 = _; omega
        have hHi : ∀ e p, ((H1.push (.cells (ev e) .ex 1)).push (.strIter (bs ℓ) p)).m (h.n + 3) = some (.strIter (bs ℓ) p) := fun e p => by
          rw [push_m]; exact if_pos (by show h.n + 3 = H1.n + 1; omega)
        have hHs : ∀ e p q, ((H1.push (.cells (ev e) .ex 1)).push (.strIter (bs ℓ) p)).set (h.n + 3) (.strIter (bs ℓ) q) = (H1.push (.cells (ev e) .ex 1)).push (.strIter (bs ℓ) q) := fun e p q => by
          have := set_push (H1.push (.cells (ev e) .ex 1)) (.strIter (bs ℓ) p) (.strIter (bs ℓ) q)
          have hx : (H1.push (.cells (ev e) .ex 1)).n = h.n + 3 := by show H1.n + 1 = _; omega
          rw [hx] at this; exact this
        have hHe : ∀ e e2 p, ((H1.push (.cells (ev e) .ex 1)).push (.strIter (bs ℓ) p)).set (h.n + 2) (.cells (ev e2) .ex 1) = (H1.push (.cells (ev e2) .ex 1)).push (.strIter (bs ℓ) p) := fun e e2 p => by
          have := set_push1 H1 (.cells (ev e) .ex 1) (.cells (ev e2) .ex 1) (.strIter (bs ℓ) p)
          rw [n1] at this; exact this
        have hc0 : ∀ e p, ((H1.push (.cells (ev e) .ex 1)).push (.strIter (bs ℓ) p)).cellsOf h.n = some (ev (zE 0), .ex, 1) := fun e p => by
          rw [cellsOf_ne (by show ¬ h.n = H1.n + 1; omega), cellsOf_ne (by omega)]; exact hf2
        have hc1 : ∀ e p, ((H1.push (.cells (ev e) .ex 1)).push (.strIter (bs ℓ) p)).cellsOf (h.n + 1) = some ((l0 :: L').map sv, .ex, 1) := fun e p => by
          rw [cellsOf_ne (by show ¬ h.n + 1 = H1.n + 1; omega), cellsOf_ne (by omega)]; exact hf1
        have hc2 : ∀ e p, ((H1.push (.cells (ev e) .ex 1)).push (.strIter (bs ℓ) p)).cellsOf (h.n + 2) = some (ev e, .ex, 1) := fun e p => by
          rw [cellsOf_ne (by show ¬ h.n + 2 = H1.n + 1; omega), ← n1]; exact cellsOf_new _ _ _ _
        have hex : ∀ e p, h.Ext ((H1.push (.cells (ev e) .ex 1)).push (.strIter (bs ℓ) p)) := fun e p => (e1.push hcl _).push hcl _
        simp only [n1]
        refine awp_loop_of (α := ES) (fun z => z.p ≤ ℓ.length ∧ MidE i s.length ℓ z.e ∧ ∀ e', RightE e' → s = lineB e' → z.e = (ℓ.take z.p).foldl (cpy e') (zE i))
          (fun z => [(2, .pointer (some ⟨h.n, 0, none⟩)), (4, .slice (some ⟨h.n + 1, 0, none⟩) (M + 1) (M + 1)), (8, .pointer (some ⟨h.n + 2, 0, none⟩)), (38, .pointer (some ⟨h.n + 3, 0, none⟩))])
          (fun z => (H1.push (.cells (ev z.e) .ex 1)).push (.strIter (bs ℓ) z.p)) (fun z => ℓ.length - z.p) ⟨0, zE i⟩
          ⟨Nat.zero_le _, mid_start hk' _ _, fun e' _ _ => rfl⟩ ⟨by rw [hHn]; omega, Nat.le_refl _, fun _ _ e => e, hHc _ _⟩
          (by simp; exact ⟨.ptr (by rw [n1]; show h.n < h.n + 2 + 1 + 1; omega), vb_slice (by rw [n1]; show h.n + 1 < h.n + 2 + 1 + 1; omega), .ptr (by rw [n1]; show h.n + 2 < h.n + 2 + 1 + 1; omega), .ptr (by rw [n1]; show h.n + 3 < h.n + 2 + 1 + 1; omega)⟩) ?_
        rintro ⟨p, e⟩ ⟨hp, hmid, hrt⟩
        dsimp only at hp hmid hrt ⊢
        by_cases hpl : p < ℓ.length
        · have hgt : ℓ[p]? = some ℓ[p] := List.getElem?_eq_getElem hpl
          have hcm := hmem ℓ[p] (List.getElem_mem _)
          have hcl' : ℓ[p] ∈ ℓ := List.getElem_mem _
          have htk : ℓ.take (p + 1) = ℓ.take p ++ [ℓ[p]] := List.take_succ_eq_append_getElem hpl
          have hLp : ((l0 :: L').map sv)[p + 1]? = some (sv (L'[p]'(by omega))) := by simp [show p < L'.length by omega]
          have hLq : L'[p]? = some (L'[p]'(by omega)) := List.getElem?_eq_getElem (by omega)
          have hwr : ∀ e', RightE e' → s = lineB e' → L'[p]'(by omega) = (wv e' ℓ[p]).1 ∧ (wv e' ℓ[p]).2 = true := fun e' h1 h2 => by
            have h3 := hr2 e' h1 h2
            refine ⟨?_, ?_⟩
            · have := h3.2
              subst this
              simp [ltW]
            · have h4 := h1.w
              rw [h3.1, hℓ] at h4
              exact List.all_eq_true.1 h4 _ hcl'
          have hwl : (L'[p]'(by omega)).length ≤ s.length := hspl _ (by simp)
          have hwp : IntKind.i64.wrap ((p : Int) + 1) = ((p + 1 : Nat) : Int) := w1 p (by omega)
          have hip : aidx (.int .i64 ((p + 1 : Nat) : Int)) (M + 1) = some (p + 1) := aidx_of (by omega)
          generalize L'[p]'(by omega) = w at *
          generalize ℓ[p] = c at *
          have hsvw : sv w = .string (bs w) := rfl
          simp [c61_2, hHi, bs_data, hgt, hcm.2, hHs, hwp, hip, hc1, apart, hLp, hLq, hsvw, -Int.natCast_add]
          refine (set_ok e (h.n + 2) .ex 1 c w (by omega) _ (hc2 e (p + 1)) (by decide)).mono ?_
          rintro _ h9 ⟨e2, ok, rfl, he', hset⟩
          rw [he', hHe]; clear he' h9
          cases ok with
          | true =>
            simp [aun]
            refine ⟨⟨p + 1, e2⟩, by show ℓ.length - (p + 1) < ℓ.length - p; omega, ⟨by show p + 1 ≤ ℓ.length; omega, step_mid hmid hset hcl' hcm.1 hwl hs, fun e' h1 h2 => ?_⟩, ⟨by rw [hHn]; omega, Nat.le_refl _, fun _ _ e => e, hHc _ _⟩, .ptr (by rw [n1]; show h.n < h.n + 2 + 1 + 1; omega), vb_slice (by rw [n1]; show h.n + 1 < h.n + 2 + 1 + 1; omega), .ptr (by rw [n1]; show h.n + 2 < h.n + 2 + 1 + 1; omega), .ptr (by rw [n1]; show h.n + 3 < h.n + 2 + 1 + 1; omega)⟩
            show e2 = (ℓ.take (p + 1)).foldl (cpy e') (zE i)
            rw [htk, List.foldl_append, ← hrt e' h1 h2]
            exact (step_right hset h1.m (hwr e' h1 h2).1 (hwr e' h1 h2).2).2
          | false =>
            simp [aun, bs_lit, zz, zz4, hc0, mc_ev, hl5, hpe, cellsOf_set, apart, acut_ev]
            refine ⟨⟨zE 0, false, rfl, okz, fun q => (by cases q), fun e' h1 h2 => ?_⟩, e3 _ (hex _ _) _⟩
            have := (step_right hset h1.m (hwr e' h1 h2).1 (hwr e' h1 h2).2).1
            cases this
        · have hpe' : p = ℓ.length := by omega
          subst hpe'
          have hgt : ℓ[ℓ.length]? = none := by simp
          rw [List.take_of_length_le (Nat.le_refl _)] at hrt
          simp [c61_2, hHi, bs_data, hgt, hc2, hc0, mc_ev, hl5, hpe, cellsOf_set, apart, acut_ev]
          refine ⟨⟨e, true, rfl, hmid.ok, fun _ => ⟨mid_clean hk' (by rw [hℓ]; exact hmid), fun q => (by
            have q2 := hnil q
            simp only [List.cons.injEq] at q2
            exact nmB_ne hk' (hn.trans q2.1))⟩, fun e' h1 h2 => ⟨rfl, ?_⟩⟩, e3 _ (hex _ _) _⟩
          have h3 := (hr2 e' h1 h2).1
          rw [hrt e' h1 h2]
          have := cpy_all h1.cl
          rw [h3, hℓ] at this
          exact this
      · have hne : ¬ ((ltB i).length : Int) = M := by omega
        simp [hsvn, hsvl, hsv0, i0, hf1, apart, hn, bs_size, w6, w6', hne, w4, -Int.natCast_add]
        exact hnx (fun q => hl q.2)
    · have hne : ¬ bs (nmB i) = bs l0 := fun q => hn (bs_inj.1 q)
      simp [hsvn, hsvl, hsv0, i0, hf1, apart, hne, w4, -Int.natCast_add]
      exact hnx (fun q => hn q.1)
  · have hie : i = 16 := by omega
    have hi' : ¬ (i : Int) ≤ 15 := by omega
    simp [c61_0, hi', bs_lit, zz, zz4, hf2, mc_ev, hl5, hpe, cellsOf_set, apart, acut_ev]
    refine ⟨⟨zE 0, false, rfl, ⟨⟨by show _ ≤ (0 : Int); omega, by show (0 : Int) < _; omega⟩, ⟨by show (_ : Int) ≤ 0; omega, by show (0 : Int) < _; omega⟩, ⟨by show (_ : Int) ≤ 0; omega, by show (0 : Int) < _; omega⟩, ⟨Int.le_refl _, by show (0 : Int) < _; omega⟩, Nat.zero_le _⟩, fun q => (by cases q), fun e' h1 h2 => ?_⟩, e3 _ e1 _⟩
    exfalso
    have hk := h1.cl.k
    have hsp := hright e' h1 h2
    simp only [List.cons.injEq] at hsp
    refine hno e'.k hk.1 (by omega) ⟨hsp.1.symm, ?_⟩
    rw [← hL', hsp.2]; simp [ltW]
def c31 : AC := .seq (.ops [⟨ some 1, none, .box (.tmp 0) ⟩, ⟨ some 2, none, .mv (.const (.bool false)) ⟩]) (.seq (.ops [⟨ some 7, none, .load (some 5) (.tmp 1) ⟩, ⟨ some 8, none, .call 60 [.tmp 7] ⟩, ⟨ some 6, none, .mv (.tmp 8) ⟩, ⟨ some 9, none, .extr (.tmp 6) 0 ⟩, ⟨ some 10, none, .extr (.tmp 6) 1 ⟩, ⟨ some 3, none, .mv (.tmp 9) ⟩, ⟨ some 4, none, .mv (.tmp 10) ⟩]) (.seq (.seq (.ops [⟨ some 11, none, .mv (.tmp 4) ⟩, ⟨ some 12, none, .un .not (.tmp 11) ⟩]) (.cond (.tmp 12) (.seq (.ops [⟨ some 2, none, .mv (.const (.bool false)) ⟩]) .ret) .skip)) (.seq (.ops [⟨ some 14, none, .mv (.tmp 3) ⟩, ⟨ some 15, none, .call 61 [.tmp 14] ⟩, ⟨ some 13, none, .mv (.tmp 15) ⟩, ⟨ some 16, none, .extr (.tmp 13) 0 ⟩, ⟨ some 17, none, .extr (.tmp 13) 1 ⟩, ⟨ some 5, none, .alloc [.int .i64 0, .int .i64 0, .string ⟨ ⟨[] ⟩ ⟩, .int .i64 0, .int .u8 0] ⟩, ⟨ none, none, .store 5 (.tmp 5) (.tmp 16) ⟩, ⟨ some 4, none, .mv (.tmp 17) ⟩]) (.seq (.ops [⟨ some 18, none, .mv (.tmp 4) ⟩, ⟨ some 19, none, .mv (.tmp 18) ⟩, ⟨ some 20, some (19, true), .load (some 5) (.tmp 5) ⟩, ⟨ some 21, some (19, true), .load (some 5) (.tmp 1) ⟩, ⟨ some 22, some (19, true), .eqa false [.i, .i, .s, .i, .i] (.tmp 20) (.tmp 21) ⟩, ⟨ some 23, none, .pick (.tmp 19) (.tmp 22) (.const (.bool false)) ⟩, ⟨ some 2, none, .mv (.tmp 23) ⟩]) .ret))))
theorem k31 : compF Tryd.prog Tryd.f31 = some (c31, [2]) := by kernel_rfl
theorem n31 : Tryd.f31.ntmps = 24 := by kernel_rfl
def c30 : AC := .seq (.ops [⟨ some 1, none, .box (.tmp 0) ⟩, ⟨ some 2, none, .mv (.const (.string ⟨ ⟨[] ⟩ ⟩)) ⟩]) (.seq (.seq (.ops [⟨ some 5, none, .load (some 5) (.tmp 1) ⟩, ⟨ some 6, none, .call 31 [.tmp 5] ⟩, ⟨ some 7, none, .un .not (.tmp 6) ⟩]) (.cond (.tmp 7) (.seq (.ops [⟨ some 2, none, .mv (.const (.string ⟨ ⟨[] ⟩ ⟩)) ⟩]) .ret) .skip)) (.seq (.ops [⟨ some 9, none, .load (some 5) (.tmp 1) ⟩, ⟨ some 10, none, .call 60 [.tmp 9] ⟩, ⟨ some 8, none, .mv (.tmp 10) ⟩, ⟨ some 11, none, .extr (.tmp 8) 0 ⟩, ⟨ some 12, none, .extr (.tmp 8) 1 ⟩, ⟨ some 3, none, .mv (.tmp 11) ⟩, ⟨ some 4, none, .mv (.tmp 12) ⟩]) (.seq (.ops [⟨ some 13, none, .mv (.tmp 3) ⟩, ⟨ some 2, none, .mv (.tmp 13) ⟩]) .ret)))
theorem k30 : compF Tryd.prog Tryd.f30 = some (c30, [2]) := by kernel_rfl
theorem n30 : Tryd.f30.ntmps = 14 := by kernel_rfl
def c32 : AC := .seq (.ops [⟨ some 2, none, .alloc [.int .i64 0, .int .i64 0, .string ⟨ ⟨[] ⟩ ⟩, .int .i64 0, .int .u8 0] ⟩, ⟨ some 3, none, .mv (.const (.int .i64 0)) ⟩]) (.seq (.ops [⟨ some 7, none, .mv (.tmp 0) ⟩, ⟨ some 8, none, .call 61 [.tmp 7] ⟩, ⟨ some 6, none, .mv (.tmp 8) ⟩, ⟨ some 9, none, .extr (.tmp 6) 0 ⟩, ⟨ some 10, none, .extr (.tmp 6) 1 ⟩, ⟨ some 4, none, .alloc [.int .i64 0, .int .i64 0, .string ⟨ ⟨[] ⟩ ⟩, .int .i64 0, .int .u8 0] ⟩, ⟨ none, none, .store 5 (.tmp 4) (.tmp 9) ⟩, ⟨ some 5, none, .mv (.tmp 10) ⟩]) (.seq (.seq (.ops [⟨ some 11, none, .mv (.tmp 5) ⟩, ⟨ some 12, none, .un .not (.tmp 11) ⟩, ⟨ some 13, none, .mv (.tmp 12) ⟩, ⟨ some 14, some (13, false), .load (some 5) (.tmp 4) ⟩, ⟨ some 15, some (13, false), .call 30 [.tmp 14] ⟩, ⟨ some 16, some (13, false), .mv (.tmp 0) ⟩, ⟨ some 17, some (13, false), .bin .neq (.tmp 15) (.tmp 16) ⟩, ⟨ some 18, none, .pick (.tmp 13) (.const (.bool true)) (.tmp 17) ⟩]) (.cond (.tmp 18) (.seq (.ops [⟨ some 19, none, .build [.int .i64 0, .int .i64 0, .string ⟨ ⟨[] ⟩ ⟩, .int .i64 0, .int .u8 0] [] ⟩, ⟨ none, none, .store 5 (.tmp 2) (.tmp 19) ⟩, ⟨ some 3, none, .mv (.const (.int .i64 6)) ⟩]) .ret) .skip)) (.seq (.ops [⟨ some 20, none, .load (some 5) (.tmp 4) ⟩, ⟨ none, none, .store 5 (.tmp 2) (.tmp 20) ⟩, ⟨ some 3, none, .mv (.const (.int .i64 0)) ⟩]) .ret)))
theorem k32 : compR Tryd.prog Tryd.f32 = some (c32, [.c 2 (some 5), .t 3]) := by kernel_rfl
theorem n32 : Tryd.f32.ntmps = 21 := by kernel_rfl
/-! right events are printed, and read -/
theorem ev_eq (x e : Ev) : aeqL [.i, .i, .s, .i, .i] (ev x) (ev e) = some (decide (x = e)) := by
  obtain ⟨a1, a2, a3, a4, a5⟩ := x
  obtain ⟨b1, b2, b3, b4, b5⟩ := e
  simp only [ev, sv, aeqL, aeqC, if_true, bs_eq_dec, Bool.and_true, Option.some.injEq]
  by_cases q1 : a1 = b1 <;> by_cases q2 : a2 = b2 <;> by_cases q3 : a3 = b3 <;> by_cases q4 : a4 = b4 <;> by_cases q5 : a5 = b5 <;> simp [q1, q2, q3, q4, q5]
theorem joinB_len (c : UInt8) (a : List UInt8) (r : List (List UInt8)) : (joinB [c] (a :: r)).length = a.length + (r.length + sumL r) := by
  show (a ++ r.flatMap fun x => [c] ++ x).length = _
  rw [List.length_append, flatM_len]; simp
theorem wv_lenok {e : Ev} {c : UInt8} (h : (wv e c).2 = true) : (wv e c).1.length ≤ 801 := by
  unfold wv at h ⊢
  split at h
  · rename_i q
    rw [if_pos q]
    have : e.s.length ≤ 400 := by simpa using h
    show (wordB e.s).length ≤ _
    unfold wordB
    rw [List.length_cons, hexB_len]; omega
  · rename_i q
    rw [if_neg q]
    have hf : -1000000 ≤ numOf e c ∧ numOf e c ≤ 1000000 := by simpa [fitI] using h
    have := itoaB_len64 (numOf e c) (by omega) (by omega)
    show (itoaB (numOf e c)).length ≤ _
    omega
theorem sumL_ok {e : Ev} : ∀ l : List UInt8, ltOk e l = true → sumL (ltW e l) ≤ 801 * l.length
  | [], _ => by simp [sumL, ltW]
  | c :: l, h => by
    simp only [ltOk, List.all_cons, Bool.and_eq_true] at h
    have := sumL_ok l h.2
    have h2 := wv_lenok h.1
    simp only [ltW, sumL, List.map_cons, List.sum_cons, List.length_cons] at this ⊢
    omega
theorem lineB_len {e : Ev} (h : ltOk e (ltB e.k) = true) : (lineB e).length ≤ 3000 := by
  unfold lineB
  rw [joinB_len]
  have h1 := lt_facts e.k
  have h2 := sumL_ok _ h
  have h3 : (ltW e (ltB e.k)).length = (ltB e.k).length := by simp [ltW]
  omega
theorem right_ok' {e : Ev} (h : RightE e) : e.Ok := by
  obtain ⟨⟨h1, h2, h3, h4, h5⟩, h6, h7⟩ := h
  have hall := List.all_eq_true.1 h6
  have fit : ∀ c, c ≠ 83 → (wv e c).2 = true → -1000000 ≤ numOf e c ∧ numOf e c ≤ 1000000 := fun c hc q => by
    unfold wv at q
    rw [if_neg hc] at q
    simpa [fitI] using q
  refine ⟨by omega, ?_, ?_, h7, ?_⟩
  · by_cases q : (65 : UInt8) ∈ ltB e.k
    · have := fit 65 (by decide) (hall _ q)
      have hn : numOf e 65 = e.a := rfl
      omega
    · have := h2 q; omega
  · by_cases q : (66 : UInt8) ∈ ltB e.k
    · have := fit 66 (by decide) (hall _ q)
      have hn : numOf e 66 = e.b := rfl
      omega
    · have := h3 q; omega
  · by_cases q : (83 : UInt8) ∈ ltB e.k
    · have := hall _ q
      have hw : (wv e 83).2 = decide (e.s.length ≤ 400) := rfl
      rw [hw] at this
      have : e.s.length ≤ 400 := by simpa using this
      omega
    · have := h5 q
      rw [this]; simp
def RtV (e : Ev) (v : Value) : Prop := ∃ b : Bool, v = .bool b ∧ (b = true ↔ RightE e)
theorem lRight_ok (e : Ev) (he : e.Ok) (h : Heap) : ACalls Tryd.prog 31 [.agg (ev e).toArray] h fun v h' => RtV e v ∧ h' = h := by
  refine ACalls.same' (R := RtV e) (fun v hv => ?_) (acalls_of mix Tryd.func31 k31 n31 (by simp) fun hcl hb => ?_)
  · obtain ⟨b, rfl, _⟩ := hv; exact .bool
  have zz : ([.int .i64 0, .int .i64 0, .string (bs []), .int .i64 0, .int .u8 0] : List Value) = ev (zE 0) := rfl
  have hl5 : ∀ e, (ev e).length = 5 := fun _ => rfl
  have hpe : ∀ e e2, aput (ev e) 0 (ev e2) = ev e2 := fun _ _ => rfl
  have f0 := cellsOf_new h (ev e) .ex 1
  have c0 : (h.push (.cells (ev e) .ex 1)).Closed := closed_push hcl ev_bel
  have e0 := (Heap.Ext.refl h).push hcl (.cells (ev e) .ex 1)
  have n0 : (h.push (.cells (ev e) .ex 1)).n = h.n + 1 := rfl
  simp [c31, mc_ev, f0, apart, acut_ev]
  generalize h.push (.cells (ev e) .ex 1) = H0 at *
  refine (line_ok e he H0).mono ?_
  rintro _ h9 ⟨rfl, e'⟩
  rw [e']; clear e' h9
  have hLV : lineV e = if ltOk e (ltB e.k) then (lineB e, decide (nmB e.k ≠ [])) else ([], false) := rfl
  by_cases hlo : ltOk e (ltB e.k) = true
  · rw [if_pos hlo] at hLV
    by_cases hnm : nmB e.k = []
    · have : (lineV e).2 = false := by rw [hLV]; simp [hnm]
      simp [this, aun]
      exact ⟨⟨false, rfl, fun q => (by cases q), fun q => absurd hnm (nmB_ne q.cl.k)⟩, e0⟩
    · have h2 : (lineV e).2 = true := by rw [hLV]; simp [hnm]
      have h1 : (lineV e).1 = lineB e := by rw [hLV]
      have hsv : sv (lineB e) = .string (bs (lineB e)) := rfl
      simp [h1, h2, aun, hsv]
      refine (read_ok (lineB e) (by have := lineB_len hlo; omega) H0).mono ?_
      rintro _ h9 ⟨⟨x, ok, rfl, hxo, hxc, hxr⟩, e'⟩
      rw [e']; clear e' h9
      have f1 := cellsOf_new H0 (ev x) .ex 1
      have f2 : (H0.push (.cells (ev x) .ex 1)).cellsOf h.n = some (ev e, .ex, 1) := by rw [cellsOf_ne (by omega)]; exact f0
      cases ok with
      | false =>
        simp [bs_lit, zz, mc_ev, hl5, hpe, cellsOf_new, set_push, f1, f2, apart, acut_ev, ev_eq]
        exact ⟨⟨false, rfl, fun q => (by cases q), fun q => (by have := (hxr e q rfl).1; cases this)⟩, e0.push hcl _⟩
      | true =>
        simp [bs_lit, zz, mc_ev, hl5, hpe, cellsOf_new, set_push, f1, f2, apart, acut_ev, ev_eq]
        refine ⟨⟨decide (x = e), rfl, ?_⟩, e0.push hcl _⟩
        rw [decide_eq_true_iff]
        exact ⟨fun q => ⟨q ▸ (hxc rfl).1, hlo, he.m⟩, fun q => (hxr e q rfl).2⟩
  · rw [if_neg hlo] at hLV
    have : (lineV e).2 = false := by rw [hLV]
    simp [this, aun]
    exact ⟨⟨false, rfl, fun q => (by cases q), fun q => absurd q.w hlo⟩, e0⟩
def PrV (e : Ev) (v : Value) : Prop := (RightE e → v = sv (lineB e)) ∧ (¬ RightE e → v = sv [])
theorem lPrint_ok (e : Ev) (he : e.Ok) (h : Heap) : ACalls Tryd.prog 30 [.agg (ev e).toArray] h fun v h' => PrV e v ∧ h' = h := by
  refine ACalls.same' (R := PrV e) (fun v hv => ?_) (acalls_of mix Tryd.func30 k30 n30 (by simp) fun hcl hb => ?_)
  · by_cases q : RightE e
    · rw [hv.1 q]; exact .string
    · rw [hv.2 q]; exact .string
  have f0 := cellsOf_new h (ev e) .ex 1
  have e0 := (Heap.Ext.refl h).push hcl (.cells (ev e) .ex 1)
  simp [c30, mc_ev, f0, apart, acut_ev]
  generalize h.push (.cells (ev e) .ex 1) = H0 at *
  refine (lRight_ok e he H0).mono ?_
  rintro _ h9 ⟨⟨b, rfl, hb'⟩, e'⟩
  rw [e']; clear e' h9
  cases b with
  | false =>
    simp [aun, bs_lit]
    exact ⟨⟨fun q => (by have := hb'.2 q; cases this), fun _ => rfl⟩, e0⟩
  | true =>
    have hR := hb'.1 rfl
    simp [aun, f0, apart, acut_ev]
    refine (line_ok e he H0).mono ?_
    rintro _ h9 ⟨rfl, e'⟩
    rw [e']; clear e' h9
    have hLV : (lineV e).1 = lineB e := by unfold lineV; rw [if_pos hR.w]
    simp [hLV]
    exact ⟨⟨fun _ => rfl, fun q => absurd hR q⟩, e0⟩
/-- what is read of a line -/
def PaV (s : List UInt8) (v : Value) : Prop := (∀ e, RightE e → s = lineB e → v = .tuple #[.agg (ev e).toArray, .int .i64 0]) ∧ ((∀ e, RightE e → s ≠ lineB e) → v = .tuple #[.agg (ev (zE 0)).toArray, .int .i64 6])
theorem line_ne {e : Ev} (h : RightE e) : lineB e ≠ [] := fun q => by
  have h1 := congrArg List.length q
  unfold lineB at h1
  rw [joinB_len] at h1
  have h2 := nmB_ne h.cl.k
  have : nmB e.k = [] := List.length_eq_zero_iff.1 (by rw [List.length_nil] at h1; omega)
  exact h2 this
theorem lParse_ok (s : List UInt8) (hs : s.length ≤ 10000) (h : Heap) : ACalls Tryd.prog 32 [.string (bs s)] h fun v h' => PaV s v ∧ h' = h := by
  refine ACalls.same' (R := PaV s) (fun v hv => ?_) (acalls_ofR mix Tryd.func32 k32 n32 (by simp) fun hcl hb => ?_)
  · by_cases q : ∃ e, RightE e ∧ s = lineB e
    · obtain ⟨e, h1, h2⟩ := q
      rw [hv.1 e h1 h2]; exact vb_tup2 (ev_agg _ _) .int
    · rw [hv.2 fun e h1 h2 => q ⟨e, h1, h2⟩]; exact vb_tup2 (ev_agg _ _) .int
  have zz : ([.int .i64 0, .int .i64 0, .string (bs []), .int .i64 0, .int .u8 0] : List Value) = ev (zE 0) := rfl
  have zz4 : afill (ev (zE 0)) [] = some (ev (zE 0)) := rfl
  have hl5 : ∀ e, (ev e).length = 5 := fun _ => rfl
  have hpe : ∀ e e2, aput (ev e) 0 (ev e2) = ev e2 := fun _ _ => rfl
  have f0 := cellsOf_new h (ev (zE 0)) .ex 1
  have e0 := (Heap.Ext.refl h).push hcl (.cells (ev (zE 0)) .ex 1)
  have n0 : (h.push (.cells (ev (zE 0)) .ex 1)).n = h.n + 1 := rfl
  simp [c32, bs_lit, zz]
  generalize h.push (.cells (ev (zE 0)) .ex 1) = H0 at *
  refine (read_ok s hs H0).mono ?_
  rintro _ h9 ⟨⟨x, ok, rfl, hxo, hxc, hxr⟩, e'⟩
  rw [e']; clear e' h9
  have f1 := cellsOf_new H0 (ev x) .ex 1
  have f2 : (H0.push (.cells (ev x) .ex 1)).cellsOf h.n = some (ev (zE 0), .ex, 1) := by rw [cellsOf_ne (by omega)]; exact f0
  have e3 : ∀ o, h.Ext ((H0.push (.cells (ev x) .ex 1)).set h.n o) := fun o => ⟨by show h.n ≤ H0.n + 1; omega, fun b ob eb => by
    have := (hcl b ob eb).1
    rw [set_m, if_neg (by omega), push_m, if_neg (by omega)]; exact e0.m b ob eb⟩
  have bad : (∀ e, RightE e → s ≠ lineB e) → PaV s (.tuple #[.agg (ev (zE 0)).toArray, .int .i64 6]) := fun hn => ⟨fun e h1 h2 => absurd h2 (hn e h1), fun _ => rfl⟩
  cases ok with
  | false =>
    simp [aun, bs_lit, zz, zz4, mc_ev, hl5, hpe, cellsOf_new, set_push, f2, apart, acut_ev, cellsOf_set]
    exact ⟨bad fun e h1 h2 => (by have := (hxr e h1 h2).1; cases this), e3 _⟩
  | true =>
    simp [aun, bs_lit, zz, mc_ev, hl5, hpe, cellsOf_new, set_push, f1, apart, acut_ev]
    refine (lPrint_ok x hxo _).mono ?_
    rintro _ h9 ⟨hp, e'⟩
    rw [e']; clear e' h9
    by_cases hR : RightE x
    · rw [hp.1 hR]
      have hsv : sv (lineB x) = .string (bs (lineB x)) := rfl
      by_cases hls : lineB x = s
      · have hsv' : sv (lineB x) = .string (bs s) := by rw [hls]; rfl
        simp [hsv', f1, f2, mc_ev, hl5, hpe, cellsOf_set, apart, acut_ev]
        exact ⟨⟨fun e h1 h2 => (by rw [(hxr e h1 h2).2]), fun hn => absurd hls.symm (hn x hR)⟩, e3 _⟩
      · have hne : ¬ bs (lineB x) = bs s := fun q => hls (bs_inj.1 q)
        simp [hsv, hne, bs_lit, zz, zz4, f1, f2, mc_ev, hl5, hpe, cellsOf_set, apart, acut_ev]
        exact ⟨bad fun e h1 h2 => hls (by rw [(hxr e h1 h2).2]; exact h2.symm), e3 _⟩
    · rw [hp.2 hR]
      have hsv : sv [] = .string (bs []) := rfl
      by_cases hls : [] = s
      · exact absurd hls.symm (hxc rfl).2
      · have hne : ¬ bs [] = bs s := fun q => hls (bs_inj.1 q)
        simp [hsv, hne, bs_lit, zz, zz4, f1, f2, mc_ev, hl5, hpe, cellsOf_set, apart, acut_ev]
        exact ⟨bad fun e h1 h2 => hR (by rw [(hxr e h1 h2).2]; exact h1), e3 _⟩
def c59 : AC := .seq (.ops [⟨ some 2, none, .mv (.const (.bool false)) ⟩]) (.seq (.ops [⟨ some 3, none, .mv (.tmp 0) ⟩, ⟨ some 4, none, .bin .geq (.tmp 3) (.const (.int .i64 (-1000000))) ⟩, ⟨ some 5, none, .mv (.tmp 4) ⟩, ⟨ some 6, some (5, true), .mv (.tmp 0) ⟩, ⟨ some 7, some (5, true), .bin .leq (.tmp 6) (.const (.int .i64 1000000)) ⟩, ⟨ some 8, none, .pick (.tmp 5) (.tmp 7) (.const (.bool false)) ⟩, ⟨ some 2, none, .mv (.tmp 8) ⟩]) .ret)
theorem k59 : compF Tryd.prog Tryd.f59 = some (c59, [2]) := by kernel_rfl
theorem n59 : Tryd.f59.ntmps = 9 := by kernel_rfl
def c28 : AC := .seq (.ops [⟨ some 1, none, .box (.tmp 0) ⟩, ⟨ some 2, none, .mv (.const (.bool false)) ⟩]) (.seq (.ops [⟨ some 4, none, .fAddr 0 (.tmp 1) ⟩, ⟨ some 5, none, .load none (.tmp 4) ⟩, ⟨ some 3, none, .mv (.tmp 5) ⟩]) (.seq (.seq (.ops [⟨ some 6, none, .mv (.tmp 3) ⟩, ⟨ some 7, none, .bin .lss (.tmp 6) (.const (.int .i64 1)) ⟩, ⟨ some 8, none, .mv (.tmp 7) ⟩, ⟨ some 9, some (8, false), .mv (.tmp 3) ⟩, ⟨ some 10, some (8, false), .bin .gtr (.tmp 9) (.const (.int .i64 15)) ⟩, ⟨ some 11, none, .pick (.tmp 8) (.const (.bool true)) (.tmp 10) ⟩, ⟨ some 12, none, .mv (.tmp 11) ⟩, ⟨ some 13, some (12, false), .fAddr 1 (.tmp 1) ⟩, ⟨ some 14, some (12, false), .load none (.tmp 13) ⟩, ⟨ some 15, some (12, false), .call 59 [.tmp 14] ⟩, ⟨ some 16, some (12, false), .un .not (.tmp 15) ⟩, ⟨ some 17, none, .pick (.tmp 12) (.const (.bool true)) (.tmp 16) ⟩, ⟨ some 18, none, .mv (.tmp 17) ⟩, ⟨ some 19, some (18, false), .fAddr 2 (.tmp 1) ⟩, ⟨ some 20, some (18, false), .load none (.tmp 19) ⟩, ⟨ some 21, some (18, false), .call 59 [.tmp 20] ⟩, ⟨ some 22, some (18, false), .un .not (.tmp 21) ⟩, ⟨ some 23, none, .pick (.tmp 18) (.const (.bool true)) (.tmp 22) ⟩, ⟨ some 24, none, .mv (.tmp 23) ⟩, ⟨ some 25, some (24, false), .fAddr 4 (.tmp 1) ⟩, ⟨ some 26, some (24, false), .load none (.tmp 25) ⟩, ⟨ some 27, some (24, false), .lenS true (.tmp 26) ⟩, ⟨ some 28, some (24, false), .bin .gtr (.tmp 27) (.const (.int .i64 400)) ⟩, ⟨ some 29, none, .pick (.tmp 24) (.const (.bool true)) (.tmp 28) ⟩]) (.cond (.tmp 29) (.seq (.ops [⟨ some 2, none, .mv (.const (.bool false)) ⟩]) .ret) .skip)) (.seq (.seq (.ops [⟨ some 30, none, .mv (.tmp 3) ⟩, ⟨ some 31, none, .bin .neq (.tmp 30) (.const (.int .i64 10)) ⟩, ⟨ some 32, none, .mv (.tmp 31) ⟩, ⟨ some 33, some (32, true), .mv (.tmp 3) ⟩, ⟨ some 34, some (32, true), .bin .neq (.tmp 33) (.const (.int .i64 11)) ⟩, ⟨ some 35, none, .pick (.tmp 32) (.tmp 34) (.const (.bool false)) ⟩, ⟨ some 36, none, .mv (.tmp 35) ⟩, ⟨ some 37, some (36, true), .mv (.tmp 3) ⟩, ⟨ some 38, some (36, true), .bin .neq (.tmp 37) (.const (.int .i64 13)) ⟩, ⟨ some 39, none, .pick (.tmp 36) (.tmp 38) (.const (.bool false)) ⟩, ⟨ some 40, none, .mv (.tmp 39) ⟩, ⟨ some 41, some (40, true), .mv (.tmp 3) ⟩, ⟨ some 42, some (40, true), .bin .neq (.tmp 41) (.const (.int .i64 15)) ⟩, ⟨ some 43, none, .pick (.tmp 40) (.tmp 42) (.const (.bool false)) ⟩, ⟨ some 44, none, .mv (.tmp 43) ⟩, ⟨ some 45, some (44, true), .fAddr 1 (.tmp 1) ⟩, ⟨ some 46, some (44, true), .load none (.tmp 45) ⟩, ⟨ some 47, some (44, true), .bin .neq (.tmp 46) (.const (.int .i64 0)) ⟩, ⟨ some 48, none, .pick (.tmp 44) (.tmp 47) (.const (.bool false)) ⟩, ⟨ some 49, none, .mv (.tmp 48) ⟩, ⟨ some 50, some (49, false), .mv (.tmp 3) ⟩, ⟨ some 51, some (49, false), .bin .neq (.tmp 50) (.const (.int .i64 13)) ⟩, ⟨ some 52, some (49, false), .mv (.tmp 51) ⟩, ⟨ some 53, some (52, true), .fAddr 2 (.tmp 1) ⟩, ⟨ some 54, some (52, true), .load none (.tmp 53) ⟩, ⟨ some 55, some (52, true), .bin .neq (.tmp 54) (.const (.int .i64 0)) ⟩, ⟨ some 56, some (52, true), .mv (.tmp 55) ⟩, ⟨ some 57, some (56, false), .fAddr 3 (.tmp 1) ⟩, ⟨ some 58, some (56, false), .load none (.tmp 57) ⟩, ⟨ some 59, some (56, false), .bin .neq (.tmp 58) (.const (.int .i64 0)) ⟩, ⟨ some 60, some (52, true), .pick (.tmp 56) (.const (.bool true)) (.tmp 59) ⟩, ⟨ some 61, some (49, false), .pick (.tmp 52) (.tmp 60) (.const (.bool false)) ⟩, ⟨ some 62, none, .pick (.tmp 49) (.const (.bool true)) (.tmp 61) ⟩]) (.cond (.tmp 62) (.seq (.ops [⟨ some 2, none, .mv (.const (.bool false)) ⟩]) .ret) .skip)) (.seq (.ops [⟨ some 63, none, .mv (.tmp 3) ⟩, ⟨ some 64, none, .bin .eql (.tmp 63) (.const (.int .i64 3)) ⟩, ⟨ some 65, none, .mv (.tmp 64) ⟩, ⟨ some 66, some (65, false), .mv (.tmp 3) ⟩, ⟨ some 67, some (65, false), .bin .eql (.tmp 66) (.const (.int .i64 15)) ⟩, ⟨ some 68, none, .pick (.tmp 65) (.const (.bool true)) (.tmp 67) ⟩, ⟨ some 69, none, .mv (.tmp 68) ⟩, ⟨ some 70, some (69, false), .fAddr 4 (.tmp 1) ⟩, ⟨ some 71, some (69, false), .load none (.tmp 70) ⟩, ⟨ some 72, some (69, false), .bin .eql (.tmp 71) (.const (.string ⟨ ⟨[] ⟩ ⟩)) ⟩, ⟨ some 73, none, .pick (.tmp 69) (.const (.bool true)) (.tmp 72) ⟩, ⟨ some 2, none, .mv (.tmp 73) ⟩]) .ret))))
theorem k28 : compF Tryd.prog Tryd.f28 = some (c28, [2]) := by kernel_rfl
theorem n28 : Tryd.f28.ntmps = 74 := by kernel_rfl
def c37 : AC := .seq (.ops [⟨ some 2, none, .mv (.const (.string ⟨ ⟨[] ⟩ ⟩)) ⟩]) (.seq (.seq (.ops [⟨ some 3, none, .mv (.tmp 0) ⟩, ⟨ some 4, none, .bin .lss (.tmp 3) (.const (.int .i64 0)) ⟩]) (.cond (.tmp 4) (.seq (.ops [⟨ some 5, none, .mv (.tmp 0) ⟩, ⟨ some 6, none, .un .neg (.tmp 5) ⟩, ⟨ some 7, none, .call 57 [.tmp 6] ⟩, ⟨ some 8, none, .bin .add (.const (.string ⟨ ⟨[45] ⟩ ⟩)) (.tmp 7) ⟩, ⟨ some 2, none, .mv (.tmp 8) ⟩]) .ret) .skip)) (.seq (.ops [⟨ some 9, none, .mv (.tmp 0) ⟩, ⟨ some 10, none, .call 57 [.tmp 9] ⟩, ⟨ some 2, none, .mv (.tmp 10) ⟩]) .ret))
theorem k37 : compF Tryd.prog Tryd.f37 = some (c37, [2]) := by kernel_rfl
theorem n37 : Tryd.f37.ntmps = 11 := by kernel_rfl
def c38_0 : AC := .seq (.seq (.ops [⟨ some 6, none, .mv (.tmp 5) ⟩, ⟨ some 7, none, .mv (.tmp 0) ⟩, ⟨ some 8, none, .lenS true (.tmp 7) ⟩, ⟨ some 9, none, .bin .lss (.tmp 6) (.tmp 8) ⟩]) (.cond (.tmp 9) .skip (.exit 0))) (.seq (.block 1 (.draw [([⟨ some 12, none, .mv (.tmp 4) ⟩, ⟨ some 13, none, .mv (.tmp 3) ⟩, ⟨ some 14, none, .mv (.tmp 0) ⟩, ⟨ some 15, none, .mv (.tmp 5) ⟩, ⟨ some 16, none, .iStr (.tmp 14) (.tmp 15) ⟩, ⟨ some 17, none, .bin .quo (.tmp 16) (.const (.int .u8 16)) ⟩, ⟨ some 18, none, .mv (.tmp 0) ⟩, ⟨ some 19, none, .mv (.tmp 5) ⟩, ⟨ some 20, none, .iStr (.tmp 18) (.tmp 19) ⟩, ⟨ some 21, none, .bin .quo (.tmp 20) (.const (.int .u8 16)) ⟩, ⟨ some 22, none, .bin .add (.tmp 21) (.const (.int .u8 1)) ⟩, ⟨ some 23, none, .slS (.tmp 13) (some (.tmp 17)) (some (.tmp 22)) ⟩, ⟨ some 24, none, .bin .add (.tmp 12) (.tmp 23) ⟩, ⟨ some 25, none, .mv (.tmp 3) ⟩, ⟨ some 26, none, .mv (.tmp 0) ⟩, ⟨ some 27, none, .mv (.tmp 5) ⟩, ⟨ some 28, none, .iStr (.tmp 26) (.tmp 27) ⟩, ⟨ some 29, none, .bin .rem (.tmp 28) (.const (.int .u8 16)) ⟩, ⟨ some 30, none, .mv (.tmp 0) ⟩, ⟨ some 31, none, .mv (.tmp 5) ⟩, ⟨ some 32, none, .iStr (.tmp 30) (.tmp 31) ⟩, ⟨ some 33, none, .bin .rem (.tmp 32) (.const (.int .u8 16)) ⟩, ⟨ some 34, none, .bin .add (.tmp 33) (.const (.int .u8 1)) ⟩, ⟨ some 35, none, .slS (.tmp 25) (some (.tmp 29)) (some (.tmp 34)) ⟩, ⟨ some 36, none, .bin .add (.tmp 24) (.tmp 35) ⟩], [⟨ some 4, none, .mv (.tmp 36) ⟩], []), ([], [], [])])) (.ops [⟨ some 10, none, .mv (.tmp 5) ⟩, ⟨ some 11, none, .bin .add (.tmp 10) (.const (.int .i64 1)) ⟩, ⟨ some 5, none, .mv (.tmp 11) ⟩]))
def c38 : AC := .seq (.ops [⟨ some 2, none, .mv (.const (.string ⟨ ⟨[] ⟩ ⟩)) ⟩]) (.seq (.ops [⟨ some 3, none, .mv (.const (.string ⟨ ⟨[48, 49, 50, 51, 52, 53, 54, 55, 56, 57, 97, 98, 99, 100, 101, 102] ⟩ ⟩)) ⟩]) (.seq (.ops [⟨ some 4, none, .mv (.const (.string ⟨ ⟨[61] ⟩ ⟩)) ⟩]) (.seq (.seq (.ops [⟨ some 5, none, .mv (.const (.int .i64 0)) ⟩]) (.block 0 (.loop c38_0))) (.seq (.ops [⟨ some 37, none, .mv (.tmp 4) ⟩, ⟨ some 2, none, .mv (.tmp 37) ⟩]) .ret))))
theorem k38 : compF Tryd.prog Tryd.f38 = some (c38, [2]) := by kernel_rfl
theorem n38 : Tryd.f38.ntmps = 38 := by kernel_rfl
/-! the document's events -/
def rv (e : Ev) : List Value := [.int .i64 e.k, .int .i64 e.a, .int .i64 e.b, .int .i64 e.m, sv e.s]
theorem rv_bel {n : Nat} {e : Ev} : ∀ x ∈ rv e, VBelow n x := fun x hx => by
  simp [rv] at hx
  rcases hx with rfl | rfl | rfl | rfl | rfl
  · exact .int
  · exact .int
  · exact .int
  · exact .int
  · exact .string
theorem mc_rv (e : Ev) : mcells (.agg (rv e).toArray) = some (rv e) := rfl
theorem acut_rv (e : Ev) : acut (rv e) 0 5 = some (rv e) := rfl
theorem rv_agg (n : Nat) (e : Ev) : VBelow n (.agg (rv e).toArray) := .agg fun k hk => by
  have : (rv e).toArray.getD k unk ∈ rv e := by
    have hk' : k < (rv e).length := by simpa using hk
    simp [Array.getD, hk']
  exact rv_bel _ this
theorem rv_get (e : Ev) : (rv e)[0]? = some (.int .i64 e.k) ∧ (rv e)[1]? = some (.int .i64 e.a) ∧ (rv e)[2]? = some (.int .i64 e.b) ∧ (rv e)[3]? = some (.int .i64 e.m) ∧ (rv e)[4]? = some (.string (bs e.s)) := ⟨rfl, rfl, rfl, rfl, rfl⟩
theorem fits_ok (n : Int) (h : Heap) : ACalls Tryd.prog 59 [.int .i64 n] h fun v h' => v = .bool (fitI n) ∧ h' = h := by
  refine acalls_of mix Tryd.func59 k59 n59 (by simp) fun hcl hb => ?_
  have hf : fitI n = decide (-1000000 ≤ n ∧ n ≤ 1000000) := rfl
  by_cases q : -1000000 ≤ n
  · simp [c59, q, hf]
  · simp [c59, q, hf]
structure RefR (e : Ev) : Prop where
  k : 1 ≤ e.k ∧ e.k ≤ 15
  a : fitI e.a = true
  b : fitI e.b = true
  s : e.s.length ≤ 400
  a0 : e.k ≠ 10 → e.k ≠ 11 → e.k ≠ 13 → e.k ≠ 15 → e.a = 0
  b0 : e.k ≠ 13 → e.b = 0 ∧ e.m = 0
  s0 : e.k ≠ 3 → e.k ≠ 15 → e.s = []
def RefV (e : Ev) (v : Value) : Prop := ∃ b : Bool, v = .bool b ∧ (b = true ↔ RefR e)
theorem refRt_ok (e : Ev) (h : Heap) : ACalls Tryd.prog 28 [.agg (rv e).toArray] h fun v h' => RefV e v ∧ h' = h := by
  refine ACalls.same' (R := RefV e) (fun v hv => ?_) (acalls_of mix Tryd.func28 k28 n28 (by simp) fun hcl hb => ?_)
  · obtain ⟨b, rfl, _⟩ := hv; exact .bool
  have f0 := cellsOf_new h (rv e) .ex 1
  have e0 := (Heap.Ext.refl h).push hcl (.cells (rv e) .ex 1)
  obtain ⟨g0, g1, g2, g3, g4⟩ := rv_get e
  have fit0 : fitI 0 = true := rfl
  have no : ¬ RefR e → ∀ h', h.Ext h' → RefV e (.bool false) ∧ h.Ext h' := fun q h' x => ⟨⟨false, rfl, fun w => (by cases w), fun w => absurd w q⟩, x⟩
  generalize hH0 : h.push (.cells (rv e) .ex 1) = H0 at *
  by_cases q0 : e.k < 1
  · simp [c28, mc_rv, hH0, f0, g0, apart, q0]
    exact no (fun w => by have := w.k; omega) _ e0
  · by_cases q1 : 15 < e.k
    · simp [c28, mc_rv, hH0, f0, g0, apart, q0, q1]
      exact no (fun w => by have := w.k; omega) _ e0
    · simp [c28, mc_rv, hH0, f0, g0, g1, apart, q0, q1]
      refine (fits_ok e.a H0).mono ?_
      rintro _ h9 ⟨rfl, e'⟩
      rw [e']; clear e' h9
      by_cases q2 : fitI e.a = true
      · simp [aun, q2, f0, g2, apart]
        refine (fits_ok e.b H0).mono ?_
        rintro _ h9 ⟨rfl, e'⟩
        rw [e']; clear e' h9
        by_cases q3 : fitI e.b = true
        · by_cases q4 : e.s.length ≤ 400
          · have q4' : ¬ (400 : Int) < (e.s.length : Int) := by omega
            have hse : decide (bs e.s = ⟨⟨[]⟩⟩) = decide (e.s = []) := by rw [bs_lit]; exact bs_eq_dec _ _
            by_cases k13 : e.k = 13
            · skip
              simp [aun, q3, f0, g1, g2, g3, g4, apart, bs_size, q4', q4, fit0, k13]
              rw [hse]
              exact ⟨⟨decide (e.s = []), rfl, fun w => ⟨by omega, q2, q3, q4, fun a1 a2 a3 a4 => (by simp_all), fun a1 => (by simp_all), fun a1 a2 => of_decide_eq_true w⟩, fun w => decide_eq_true (w.s0 (by simp_all) (by simp_all))⟩, e0⟩
            · skip
              by_cases k15 : e.k = 15
              · skip
                by_cases b0 : e.b = 0
                · skip
                  by_cases m0 : e.m = 0
                  · skip
                    simp [aun, q3, f0, g1, g2, g3, g4, apart, bs_size, q4', q4, fit0, k13, k15, b0, m0]
                    exact ⟨⟨true, rfl, fun _ => ⟨by omega, q2, q3, q4, fun a1 a2 a3 a4 => (by simp_all), fun a1 => (by simp_all), fun a1 a2 => (by simp_all)⟩, fun _ => rfl⟩, e0⟩
                  · skip
                    simp [aun, q3, f0, g1, g2, g3, g4, apart, bs_size, q4', q4, fit0, k13, k15, b0, m0]
                    exact no (fun w => by have := w.a0; have := w.b0; have := w.s0; simp_all) _ e0
                · skip
                  simp [aun, q3, f0, g1, g2, g3, g4, apart, bs_size, q4', q4, fit0, k13, k15, b0]
                  exact no (fun w => by have := w.a0; have := w.b0; have := w.s0; simp_all) _ e0
              · skip
                by_cases k10 : e.k = 10
                · skip
                  by_cases b0 : e.b = 0
                  · skip
                    by_cases m0 : e.m = 0
                    · skip
                      simp [aun, q3, f0, g1, g2, g3, g4, apart, bs_size, q4', q4, fit0, k10, k15, k13, b0, m0]
                      rw [hse]
                      exact ⟨⟨decide (e.s = []), rfl, fun w => ⟨by omega, q2, q3, q4, fun a1 a2 a3 a4 => (by simp_all), fun a1 => (by simp_all), fun a1 a2 => of_decide_eq_true w⟩, fun w => decide_eq_true (w.s0 (by simp_all) (by simp_all))⟩, e0⟩
                    · skip
                      simp [aun, q3, f0, g1, g2, g3, g4, apart, bs_size, q4', q4, fit0, k10, k15, k13, b0, m0]
                      exact no (fun w => by have := w.a0; have := w.b0; have := w.s0; simp_all) _ e0
                  · skip
                    simp [aun, q3, f0, g1, g2, g3, g4, apart, bs_size, q4', q4, fit0, k10, k15, k13, b0]
                    exact no (fun w => by have := w.a0; have := w.b0; have := w.s0; simp_all) _ e0
                · skip
                  by_cases k11 : e.k = 11
                  · skip
                    by_cases b0 : e.b = 0
                    · skip
                      by_cases m0 : e.m = 0
                      · skip
                        simp [aun, q3, f0, g1, g2, g3, g4, apart, bs_size, q4', q4, fit0, k10, k11, k15, k13, b0, m0]
                        rw [hse]
                        exact ⟨⟨decide (e.s = []), rfl, fun w => ⟨by omega, q2, q3, q4, fun a1 a2 a3 a4 => (by simp_all), fun a1 => (by simp_all), fun a1 a2 => of_decide_eq_true w⟩, fun w => decide_eq_true (w.s0 (by simp_all) (by simp_all))⟩, e0⟩
                      · skip
                        simp [aun, q3, f0, g1, g2, g3, g4, apart, bs_size, q4', q4, fit0, k10, k11, k15, k13, b0, m0]
                        exact no (fun w => by have := w.a0; have := w.b0; have := w.s0; simp_all) _ e0
                    · skip
                      simp [aun, q3, f0, g1, g2, g3, g4, apart, bs_size, q4', q4, fit0, k10, k11, k15, k13, b0]
                      exact no (fun w => by have := w.a0; have := w.b0; have := w.s0; simp_all) _ e0
                  · skip
                    by_cases a0 : e.a = 0
                    · skip
                      by_cases k3 : e.k = 3
                      · skip
                        by_cases b0 : e.b = 0
                        · skip
                          by_cases m0 : e.m = 0
                          · skip
                            simp [aun, q3, f0, g1, g2, g3, g4, apart, bs_size, q4', q4, fit0, k10, k11, k15, k13, a0, k3, b0, m0]
                            exact ⟨⟨true, rfl, fun _ => ⟨by omega, q2, q3, q4, fun a1 a2 a3 a4 => (by simp_all), fun a1 => (by simp_all), fun a1 a2 => (by simp_all)⟩, fun _ => rfl⟩, e0⟩
                          · skip
                            simp [aun, q3, f0, g1, g2, g3, g4, apart, bs_size, q4', q4, fit0, k10, k11, k15, k13, a0, k3, b0, m0]
                            exact no (fun w => by have := w.a0; have := w.b0; have := w.s0; simp_all) _ e0
                        · skip
                          simp [aun, q3, f0, g1, g2, g3, g4, apart, bs_size, q4', q4, fit0, k10, k11, k15, k13, a0, k3, b0]
                          exact no (fun w => by have := w.a0; have := w.b0; have := w.s0; simp_all) _ e0
                      · skip
                        by_cases b0 : e.b = 0
                        · skip
                          by_cases m0 : e.m = 0
                          · skip
                            simp [aun, q3, f0, g1, g2, g3, g4, apart, bs_size, q4', q4, fit0, k10, k11, k15, k13, a0, k3, b0, m0]
                            rw [hse]
                            exact ⟨⟨decide (e.s = []), rfl, fun w => ⟨by omega, q2, q3, q4, fun a1 a2 a3 a4 => (by simp_all), fun a1 => (by simp_all), fun a1 a2 => of_decide_eq_true w⟩, fun w => decide_eq_true (w.s0 (by simp_all) (by simp_all))⟩, e0⟩
                          · skip
                            simp [aun, q3, f0, g1, g2, g3, g4, apart, bs_size, q4', q4, fit0, k10, k11, k15, k13, a0, k3, b0, m0]
                            exact no (fun w => by have := w.a0; have := w.b0; have := w.s0; simp_all) _ e0
                        · skip
                          simp [aun, q3, f0, g1, g2, g3, g4, apart, bs_size, q4', q4, fit0, k10, k11, k15, k13, a0, k3, b0]
                          exact no (fun w => by have := w.a0; have := w.b0; have := w.s0; simp_all) _ e0
                    · skip
                      simp [aun, q3, f0, g1, g2, g3, g4, apart, bs_size, q4', q4, fit0, k10, k11, k15, k13, a0]
                      exact no (fun w => by have := w.a0; have := w.b0; have := w.s0; simp_all) _ e0
          · have q4' : (400 : Int) < (e.s.length : Int) := by omega
            simp [aun, q3, f0, g4, apart, bs_size, q4', q4]
            exact no (fun w => q4 w.s) _ e0
        · simp [aun, q3]
          exact no (fun w => q3 w.b) _ e0
      · simp [aun, q2]
        exact no (fun w => q2 w.a) _ e0
theorem num_ok (n : Int) (h1 : -100000000000000000 < n) (h2 : n < 100000000000000000) (h : Heap) : ACalls Tryd.prog 37 [.int .i64 n] h fun v h' => v = sv (itoaB n) ∧ h' = h := by
  refine acalls_of mix Tryd.func37 k37 n37 (by simp) fun hcl hb => ?_
  have hl := itoaB_len n h1 h2
  by_cases q : n < 0
  · have w : IntKind.i64.wrap (-n) = ((n.natAbs : Nat) : Int) := by rw [IntWalk.i64_in _ (by omega)]; omega
    have w' : IntKind.i64.wrap (0 - n) = ((n.natAbs : Nat) : Int) := by rw [Int.zero_sub]; exact w
    have hi : itoaB n = 45 :: dec n.natAbs := by unfold itoaB; rw [if_pos q]
    rw [hi] at hl
    have hsz : (bs [45]).size + (bs (dec n.natAbs)).size ≤ 9223372036854775807 := by rw [bs_size, bs_size]; simp at hl ⊢; omega
    simp only [c37, s_seq, s_ops]
    simp [q, aun, w, w']
    refine (digits_ok n.natAbs (by omega) h).mono ?_
    rintro _ h9 ⟨rfl, e'⟩
    rw [e']; clear e' h9
    simp [bs_lit, hsz, bs_append, hi]
    rfl
  · obtain ⟨m, rfl⟩ : ∃ m : Nat, n = m := ⟨n.toNat, by omega⟩
    have hi : itoaB (m : Int) = dec m := by unfold itoaB; rw [if_neg q]; rfl
    simp [c37, q]
    refine (digits_ok m (by omega) h).mono ?_
    rintro _ h9 ⟨rfl, e'⟩
    rw [e']; clear e' h9
    simp [hi]
    rfl
theorem cut16 (k : Nat) (h : k < 16) : (digs.take (k + 1)).drop k = [dg k] := by
  have : ∀ j : Fin 16, (digs.take (j.val + 1)).drop j.val = [dg j.val] := by decide
  exact this ⟨k, h⟩
theorem refTx_ok (s : List UInt8) (hs : s.length ≤ 1000000) (h : Heap) : ACalls Tryd.prog 38 [.string (bs s)] h fun v h' => v = sv (wordB s) ∧ h' = h := by
  refine ACalls.same .string (acalls_of mix Tryd.func38 k38 n38 (by simp) fun hcl hb => ?_)
  have hcd : (⟨⟨[48, 49, 50, 51, 52, 53, 54, 55, 56, 57, 97, 98, 99, 100, 101, 102]⟩⟩ : ByteArray) = bs digs := rfl
  have hcd2 : (⟨⟨[61]⟩⟩ : ByteArray) = bs [61] := rfl
  simp only [c38, s_seq, s_ops]
  simp [hcd, hcd2]
  refine awp_loop_of (α := KS) (fun z => z.i ≤ s.length) (fun z => [(0, .string (bs s)), (3, .string (bs digs)), (4, sv (wordB (s.take z.i))), (5, .int .i64 z.i)]) (fun _ => h) (fun z => s.length - z.i) ⟨0⟩
    (Nat.zero_le _) (Heap.Sub.refl hcl) (by simp; exact ⟨.string, .string, ⟨rfl, .string⟩, .int⟩) ?_
  rintro ⟨i⟩ hi
  dsimp only at hi ⊢
  by_cases hlt : i < s.length
  · have hi' : (i : Int) < (s.length : Int) := by omega
    have htk : s.take (i + 1) = s.take i ++ [s[i]] := List.take_succ_eq_append_getElem hlt
    have hx1 : wordB (s.take (i + 1)) = wordB (s.take i) ++ [dg (s[i].toNat / 16)] ++ [dg (s[i].toNat % 16)] := by
      unfold wordB
      rw [htk, hexB_app]
      simp [hexB]
    have hlen : (wordB (s.take i)).length ≤ 2000001 := by unfold wordB; rw [List.length_cons, hexB_len, List.length_take]; omega
    have hgt : s[i]? = some s[i] := List.getElem?_eq_getElem hlt
    have hai : aidx (.int .i64 (i : Int)) s.length = some i := aidx_of hlt
    have hc := s[i].toNat_lt
    have hgt' : s[i]? = some s[i] := hgt
    generalize hcc : s[i] = c at *
    have q1 : (c.toNat : Int).tdiv 16 = ((c.toNat / 16 : Nat) : Int) := rfl
    have q2 : (c.toNat : Int).tmod 16 = ((c.toNat % 16 : Nat) : Int) := rfl
    have w8 : IntKind.u8.wrap ((c.toNat / 16 : Nat) : Int) = ((c.toNat / 16 : Nat) : Int) := by unfold IntKind.wrap; simp [IntKind.bits, IntKind.signed]; omega
    have w8' : IntKind.u8.wrap (((c.toNat / 16 : Nat) : Int) + 1) = ((c.toNat / 16 + 1 : Nat) : Int) := by unfold IntKind.wrap; simp [IntKind.bits, IntKind.signed]; omega
    have w8'' : IntKind.u8.wrap (((c.toNat % 16 : Nat) : Int) + 1) = ((c.toNat % 16 + 1 : Nat) : Int) := by unfold IntKind.wrap; simp [IntKind.bits, IntKind.signed]; omega
    have hu : c.toNat / 16 < 16 := by omega
    have hw : c.toNat % 16 < 16 := by omega
    generalize c.toNat / 16 = u at *
    generalize c.toNat % 16 = w at *
    have w4 : IntKind.i64.wrap ((i : Int) + 1) = ((i + 1 : Nat) : Int) := w1 i (by omega)
    have b1 : ∀ k, k < 16 → abounds 16 16 (some (.int .u8 ((k : Nat) : Int))) (some (.int .u8 ((k + 1 : Nat) : Int))) none = some (k, k + 1, 16) := fun k hk => abounds_lohi (by omega) (by omega)
    have hds : (bs digs).size = 16 := rfl
    have s1 : (bs (wordB (s.take i))).size + (bs [dg u]).size ≤ 9223372036854775807 := by rw [bs_size, bs_size]; simp; omega
    have s2 : (bs (wordB (s.take i) ++ [dg u])).size + (bs [dg w]).size ≤ 9223372036854775807 := by rw [bs_size, bs_size]; simp; omega
    have z1 : (wordB (s.take i)).length ≤ 9223372036854775806 := by omega
    have z2 : (wordB (s.take i)).length ≤ 9223372036854775805 := by omega
    have z3 : (wordB (s.take i)).length + 1 ≤ 9223372036854775806 := by omega
    simp [c38_0, z1, z2, z3, bs_size, bs_data, hi', hai, hgt', q1, q2, w8, w8', w8'', b1 u hu, b1 w hw, hds, bs_extract, cut16 u hu, cut16 w hw, sv, s1, s2, bs_append, w4, -Int.natCast_add, -Int.natCast_ediv, -Int.natCast_emod]
    refine ⟨⟨i + 1⟩, by show s.length - (i + 1) < s.length - i; omega, by show i + 1 ≤ s.length; omega, Heap.Sub.refl hcl, .string, .string, ⟨?_, .string⟩, rfl, .int⟩
    show _ = bs (wordB (s.take (i + 1)))
    rw [hx1]; simp
  · have hie : i = s.length := by omega
    subst hie
    have hi' : ¬ (s.length : Int) < (s.length : Int) := by omega
    rw [List.take_of_length_le (Nat.le_refl _)]
    simp [c38_0, bs_size]
    exact Heap.Ext.refl h
def c33 : AC := .seq (.ops [⟨ some 1, none, .box (.tmp 0) ⟩, ⟨ some 2, none, .mv (.const (.string ⟨ ⟨[] ⟩ ⟩)) ⟩]) (.seq (.draw [([⟨ some 5, none, .fAddr 0 (.tmp 1) ⟩, ⟨ some 6, none, .load none (.tmp 5) ⟩], [⟨ some 4, none, .call 62 [] ⟩], [⟨ some 6, none, .load none (.tmp 5) ⟩]), ([⟨ some 7, none, .iAddrS 1 (.tmp 4) (.tmp 6) ⟩, ⟨ some 8, none, .load none (.tmp 7) ⟩, ⟨ some 3, none, .mv (.tmp 8) ⟩], [], [])]) (.seq (.seq (.ops [⟨ some 9, none, .fAddr 0 (.tmp 1) ⟩, ⟨ some 10, none, .load none (.tmp 9) ⟩, ⟨ some 11, none, .bin .eql (.tmp 10) (.const (.int .i64 10)) ⟩, ⟨ some 12, none, .mv (.tmp 11) ⟩, ⟨ some 13, some (12, false), .fAddr 0 (.tmp 1) ⟩, ⟨ some 14, some (12, false), .load none (.tmp 13) ⟩, ⟨ some 15, some (12, false), .bin .eql (.tmp 14) (.const (.int .i64 11)) ⟩, ⟨ some 16, none, .pick (.tmp 12) (.const (.bool true)) (.tmp 15) ⟩, ⟨ some 17, none, .mv (.tmp 16) ⟩, ⟨ some 18, some (17, false), .fAddr 0 (.tmp 1) ⟩, ⟨ some 19, some (17, false), .load none (.tmp 18) ⟩, ⟨ some 20, some (17, false), .bin .eql (.tmp 19) (.const (.int .i64 13)) ⟩, ⟨ some 21, none, .pick (.tmp 17) (.const (.bool true)) (.tmp 20) ⟩, ⟨ some 22, none, .mv (.tmp 21) ⟩, ⟨ some 23, some (22, false), .fAddr 0 (.tmp 1) ⟩, ⟨ some 24, some (22, false), .load none (.tmp 23) ⟩, ⟨ some 25, some (22, false), .bin .eql (.tmp 24) (.const (.int .i64 15)) ⟩, ⟨ some 26, none, .pick (.tmp 22) (.const (.bool true)) (.tmp 25) ⟩]) (.cond (.tmp 26) (.ops [⟨ some 27, none, .mv (.tmp 3) ⟩, ⟨ some 28, none, .bin .add (.tmp 27) (.const (.string ⟨ ⟨[32] ⟩ ⟩)) ⟩, ⟨ some 29, none, .fAddr 1 (.tmp 1) ⟩, ⟨ some 30, none, .load none (.tmp 29) ⟩, ⟨ some 31, none, .call 37 [.tmp 30] ⟩, ⟨ some 32, none, .bin .add (.tmp 28) (.tmp 31) ⟩, ⟨ some 3, none, .mv (.tmp 32) ⟩]) .skip)) (.seq (.seq (.ops [⟨ some 33, none, .fAddr 0 (.tmp 1) ⟩, ⟨ some 34, none, .load none (.tmp 33) ⟩, ⟨ some 35, none, .bin .eql (.tmp 34) (.const (.int .i64 13)) ⟩]) (.cond (.tmp 35) (.draw [([⟨ some 36, none, .mv (.tmp 3) ⟩, ⟨ some 37, none, .bin .add (.tmp 36) (.const (.string ⟨ ⟨[32] ⟩ ⟩)) ⟩, ⟨ some 38, none, .fAddr 2 (.tmp 1) ⟩, ⟨ some 39, none, .load none (.tmp 38) ⟩, ⟨ some 43, none, .fAddr 3 (.tmp 1) ⟩, ⟨ some 44, none, .load none (.tmp 43) ⟩], [⟨ some 40, none, .call 37 [.tmp 39] ⟩], [⟨ some 44, none, .load none (.tmp 43) ⟩]), ([⟨ some 41, none, .bin .add (.tmp 37) (.tmp 40) ⟩, ⟨ some 42, none, .bin .add (.tmp 41) (.const (.string ⟨ ⟨[32] ⟩ ⟩)) ⟩], [⟨ some 45, none, .call 37 [.tmp 44] ⟩], []), ([⟨ some 46, none, .bin .add (.tmp 42) (.tmp 45) ⟩], [⟨ some 3, none, .mv (.tmp 46) ⟩], []), ([], [], [])]) .skip)) (.seq (.seq (.ops [⟨ some 47, none, .fAddr 0 (.tmp 1) ⟩, ⟨ some 48, none, .load none (.tmp 47) ⟩, ⟨ some 49, none, .bin .eql (.tmp 48) (.const (.int .i64 3)) ⟩, ⟨ some 50, none, .mv (.tmp 49) ⟩, ⟨ some 51, some (50, false), .fAddr 0 (.tmp 1) ⟩, ⟨ some 52, some (50, false), .load none (.tmp 51) ⟩, ⟨ some 53, some (50, false), .bin .eql (.tmp 52) (.const (.int .i64 15)) ⟩, ⟨ some 54, none, .pick (.tmp 50) (.const (.bool true)) (.tmp 53) ⟩]) (.cond (.tmp 54) (.ops [⟨ some 55, none, .mv (.tmp 3) ⟩, ⟨ some 56, none, .bin .add (.tmp 55) (.const (.string ⟨ ⟨[32] ⟩ ⟩)) ⟩, ⟨ some 57, none, .fAddr 4 (.tmp 1) ⟩, ⟨ some 58, none, .load none (.tmp 57) ⟩, ⟨ some 59, none, .call 38 [.tmp 58] ⟩, ⟨ some 60, none, .bin .add (.tmp 56) (.tmp 59) ⟩, ⟨ some 3, none, .mv (.tmp 60) ⟩]) .skip)) (.seq (.ops [⟨ some 61, none, .mv (.tmp 3) ⟩, ⟨ some 2, none, .mv (.tmp 61) ⟩]) .ret)))))
theorem k33 : compF Tryd.prog Tryd.f33 = some (c33, [2]) := by kernel_rfl
theorem n33 : Tryd.f33.ntmps = 62 := by kernel_rfl
/-! the document's lines -/
theorem right_iff (e : Ev) : RightE e ↔ RefR e ∧ (0 ≤ e.m ∧ e.m < 256) := by
  constructor
  · intro h
    have ho := right_ok' h
    obtain ⟨⟨h1, h2, h3, h4, h5⟩, h6, h7⟩ := h
    refine ⟨?_, h7⟩
    have hall := List.all_eq_true.1 h6
    have fa : fitI e.a = true := by
      by_cases q : (65 : UInt8) ∈ ltB e.k
      · exact hall _ q
      · rw [h2 q]; rfl
    have fb : fitI e.b = true := by
      by_cases q : (66 : UInt8) ∈ ltB e.k
      · exact hall _ q
      · rw [h3 q]; rfl
    have fs : e.s.length ≤ 400 := by
      by_cases q : (83 : UInt8) ∈ ltB e.k
      · have := hall _ q
        have hw : (wv e 83).2 = decide (e.s.length ≤ 400) := rfl
        rw [hw] at this
        simpa using this
      · rw [h5 q]; simp
    have hl : ∀ j : Fin 16, ((j.val = 10 ∨ j.val = 11 ∨ j.val = 13 ∨ j.val = 15) ∨ (65 : UInt8) ∉ lettersL.getD j.val []) ∧ (j.val = 13 ∨ (66 : UInt8) ∉ lettersL.getD j.val [] ∧ (77 : UInt8) ∉ lettersL.getD j.val []) ∧ ((j.val = 3 ∨ j.val = 15) ∨ (83 : UInt8) ∉ lettersL.getD j.val []) := by decide
    have hk := hl ⟨e.k.toNat, by omega⟩
    have hlt : ltB e.k = lettersL.getD e.k.toNat [] := by unfold ltB; rw [if_pos h1]
    rw [hlt] at h2 h3 h4 h5
    dsimp only at hk
    exact ⟨h1, fa, fb, fs, fun a b c d => h2 (hk.1.resolve_left (by omega)), fun a => ⟨h3 (hk.2.1.resolve_left (by omega)).1, h4 (hk.2.1.resolve_left (by omega)).2⟩, fun a b => h5 (hk.2.2.resolve_left (by omega))⟩
  · rintro ⟨⟨h1, fa, fb, fs, h2, h3, h4⟩, h7⟩
    have hl : ∀ j : Fin 16, ((65 : UInt8) ∉ lettersL.getD j.val [] → j.val ≠ 10 ∧ j.val ≠ 11 ∧ j.val ≠ 13 ∧ j.val ≠ 15) ∧ ((66 : UInt8) ∉ lettersL.getD j.val [] → j.val ≠ 13) ∧ ((77 : UInt8) ∉ lettersL.getD j.val [] → j.val ≠ 13) ∧ ((83 : UInt8) ∉ lettersL.getD j.val [] → j.val ≠ 3 ∧ j.val ≠ 15) := by decide
    have hk := hl ⟨e.k.toNat, by omega⟩
    have hlt : ltB e.k = lettersL.getD e.k.toNat [] := by unfold ltB; rw [if_pos h1]
    dsimp only at hk
    rw [← hlt] at hk
    refine ⟨⟨h1, fun q => ?_, fun q => ?_, fun q => ?_, fun q => ?_⟩, ?_, h7⟩
    · have := hk.1 q; exact h2 (by omega) (by omega) (by omega) (by omega)
    · have := hk.2.1 q; exact (h3 (by omega)).1
    · have := hk.2.2.1 q; exact (h3 (by omega)).2
    · have := hk.2.2.2 q; exact h4 (by omega) (by omega)
    · refine List.all_eq_true.2 fun c hc => ?_
      rcases ltB_mem c hc with rfl | rfl | rfl | rfl
      · exact fa
      · exact fb
      · show fitI e.m = true
        simp [fitI]; omega
      · show decide (e.s.length ≤ 400) = true
        simpa using fs
theorem fit_rng {n : Int} (h : fitI n = true) : -1000000 ≤ n ∧ n ≤ 1000000 := by simpa [fitI] using h
theorem szif {α : Type} {a b : Nat} {x y : Option α} (h : a ≤ b) : (if a ≤ b then x else y) = x := if_pos h
theorem rPrint_ok (e : Ev) (hR : RefR e) (hm : 0 ≤ e.m ∧ e.m < 256) (h : Heap) : ACalls Tryd.prog 33 [.agg (rv e).toArray] h fun v h' => v = sv (lineB e) ∧ h' = h := by
  refine ACalls.same .string (acalls_of mix Tryd.func33 k33 n33 (by simp) fun hcl hb => ?_)
  have f0 : ((h.push (.cells (rv e) .ex 1)).push (.cells (namesL.map sv) .ex 1)).cellsOf h.n = some (rv e, .ex, 1) := by rw [cellsOf_ne (by show ¬ h.n = h.n + 1; omega)]; exact cellsOf_new _ _ _ _
  have f00 := cellsOf_new h (rv e) .ex 1
  have f1 : ((h.push (.cells (rv e) .ex 1)).push (.cells (namesL.map sv) .ex 1)).cellsOf (h.n + 1) = some (namesL.map sv, .ex, 1) := cellsOf_new (h.push (.cells (rv e) .ex 1)) _ _ _
  have e0 := ((Heap.Ext.refl h).push hcl (.cells (rv e) .ex 1)).push hcl (.cells (namesL.map sv) .ex 1)
  have n0 : (h.push (.cells (rv e) .ex 1)).n = h.n + 1 := rfl
  obtain ⟨g0, g1, g2, g3, g4⟩ := rv_get e
  have ra := fit_rng hR.a
  have rb := fit_rng hR.b
  have hk := hR.k
  obtain ⟨i, hi, hi2⟩ : ∃ i : Nat, i < 16 ∧ e.k = i := ⟨e.k.toNat, by omega, by omega⟩
  have hai : aidx (.int .i64 e.k) 16 = some i := by rw [hi2]; exact aidx_of hi
  have hg : (namesL.map sv)[i]? = some (.string (bs (nmB e.k))) := by
    have h1 : nmB e.k = namesL[i]'hi := by
      unfold nmB
      rw [if_pos hk, hi2]
      show namesL.getD i [] = _
      rw [List.getD, List.getElem?_eq_getElem (show i < namesL.length from hi)]; rfl
    rw [List.getElem?_map, List.getElem?_eq_getElem (show i < namesL.length from hi), h1]; rfl
  have lN := (lt_facts e.k).2.1
  have lA := (itoaB_len e.a (by omega) (by omega)).2
  have lB := (itoaB_len e.b (by omega) (by omega)).2
  have lM := (itoaB_len e.m (by omega) (by omega)).2
  have lS : (wordB e.s).length ≤ 801 := by have := hR.s; unfold wordB; rw [List.length_cons, hexB_len]; omega
  have hline : lineB e = joinB [32] (nmB e.k :: ltW e (ltB e.k)) := rfl
  rw [hline]
  have la : (wv e 65).1 = itoaB e.a := rfl
  have lb : (wv e 66).1 = itoaB e.b := rfl
  have lm : (wv e 77).1 = itoaB e.m := rfl
  have ls : (wv e 83).1 = wordB e.s := rfl
  have hlt : ∀ j : Int, 1 ≤ j ∧ j ≤ 15 → ltB j = lettersL.getD j.toNat [] := fun j q => by unfold ltB; rw [if_pos q]
  simp [c33, mc_rv, f00, g0, apart]
  refine (names_ok _).mono ?_
  rintro _ h9 ⟨rfl, e'⟩
  rw [e']; clear e' h9
  generalize hH : (h.push (.cells (rv e) .ex 1)).push (.cells (namesL.map sv) .ex 1) = H at *
  rw [n0]
  generalize hWd : ltW e (ltB e.k) = W
  clear hline
  generalize nmB e.k = N at *
  simp (disch := first | exact trivial | omega) [szif, f0, f1, g0, g1, g2, g3, g4, hai, hg, apart, bs_size, bs_append, bs_lit, sv]
  by_cases k10 : e.k = 10
  · skip
    have hW : W = [itoaB e.a] := by rw [← hWd, k10]; rfl
    simp (disch := first | exact trivial | omega) [szif, f0, f1, g0, g1, g2, g3, g4, hai, hg, apart, bs_size, bs_append, bs_lit, sv, k10]
    refine (num_ok e.a (by omega) (by omega) H).mono ?_
    rintro _ h9 ⟨rfl, e'⟩
    rw [e']; clear e' h9
    simp (disch := first | exact trivial | omega) [szif, f0, f1, g0, g1, g2, g3, g4, hai, hg, apart, bs_size, bs_append, bs_lit, sv, k10]
    simp [hW, joinB]
    exact e0
  · by_cases k11 : e.k = 11
    · skip
      have hW : W = [itoaB e.a] := by rw [← hWd, k11]; rfl
      simp (disch := first | exact trivial | omega) [szif, f0, f1, g0, g1, g2, g3, g4, hai, hg, apart, bs_size, bs_append, bs_lit, sv, k10, k11]
      refine (num_ok e.a (by omega) (by omega) H).mono ?_
      rintro _ h9 ⟨rfl, e'⟩
      rw [e']; clear e' h9
      simp (disch := first | exact trivial | omega) [szif, f0, f1, g0, g1, g2, g3, g4, hai, hg, apart, bs_size, bs_append, bs_lit, sv, k10, k11]
      simp [hW, joinB]
      exact e0
    · by_cases k13 : e.k = 13
      · skip
        have hW : W = [itoaB e.a, itoaB e.b, itoaB e.m] := by rw [← hWd, k13]; rfl
        simp (disch := first | exact trivial | omega) [szif, f0, f1, g0, g1, g2, g3, g4, hai, hg, apart, bs_size, bs_append, bs_lit, sv, k10, k11, k13]
        refine (num_ok e.a (by omega) (by omega) H).mono ?_
        rintro _ h9 ⟨rfl, e'⟩
        rw [e']; clear e' h9
        simp (disch := first | exact trivial | omega) [szif, f0, f1, g0, g1, g2, g3, g4, hai, hg, apart, bs_size, bs_append, bs_lit, sv, k10, k11, k13]
        refine (num_ok e.b (by omega) (by omega) H).mono ?_
        rintro _ h9 ⟨rfl, e'⟩
        rw [e']; clear e' h9
        simp (disch := first | exact trivial | omega) [szif, f0, f1, g0, g1, g2, g3, g4, hai, hg, apart, bs_size, bs_append, bs_lit, sv, k10, k11, k13]
        refine (num_ok e.m (by omega) (by omega) H).mono ?_
        rintro _ h9 ⟨rfl, e'⟩
        rw [e']; clear e' h9
        simp (disch := first | exact trivial | omega) [szif, f0, f1, g0, g1, g2, g3, g4, hai, hg, apart, bs_size, bs_append, bs_lit, sv, k10, k11, k13]
        simp [hW, joinB]
        exact e0
      · by_cases k15 : e.k = 15
        · skip
          have hW : W = [itoaB e.a, wordB e.s] := by rw [← hWd, k15]; rfl
          simp (disch := first | exact trivial | omega) [szif, f0, f1, g0, g1, g2, g3, g4, hai, hg, apart, bs_size, bs_append, bs_lit, sv, k10, k11, k13, k15]
          refine (num_ok e.a (by omega) (by omega) H).mono ?_
          rintro _ h9 ⟨rfl, e'⟩
          rw [e']; clear e' h9
          simp (disch := first | exact trivial | omega) [szif, f0, f1, g0, g1, g2, g3, g4, hai, hg, apart, bs_size, bs_append, bs_lit, sv, k10, k11, k13, k15]
          refine (refTx_ok e.s (by have := hR.s; omega) H).mono ?_
          rintro _ h9 ⟨rfl, e'⟩
          rw [e']; clear e' h9
          simp (disch := first | exact trivial | omega) [szif, f0, f1, g0, g1, g2, g3, g4, hai, hg, apart, bs_size, bs_append, bs_lit, sv, k10, k11, k13, k15]
          simp [hW, joinB]
          exact e0
        · by_cases k3 : e.k = 3
          · skip
            have hW : W = [wordB e.s] := by rw [← hWd, k3]; rfl
            simp (disch := first | exact trivial | omega) [szif, f0, f1, g0, g1, g2, g3, g4, hai, hg, apart, bs_size, bs_append, bs_lit, sv, k10, k11, k13, k15, k3]
            refine (refTx_ok e.s (by have := hR.s; omega) H).mono ?_
            rintro _ h9 ⟨rfl, e'⟩
            rw [e']; clear e' h9
            simp (disch := first | exact trivial | omega) [szif, f0, f1, g0, g1, g2, g3, g4, hai, hg, apart, bs_size, bs_append, bs_lit, sv, k10, k11, k13, k15, k3]
            simp [hW, joinB]
            exact e0
          · skip
            have hl0 : ∀ j : Fin 16, (j.val = 0 ∨ j.val = 10 ∨ j.val = 11 ∨ j.val = 13 ∨ j.val = 15 ∨ j.val = 3) ∨ lettersL.getD j.val [] = [] := by decide
            have hno : ltW e (ltB e.k) = [] := by
              have h1 : ltB e.k = [] := by
                rw [hlt _ hk]
                exact (hl0 ⟨e.k.toNat, by omega⟩).resolve_left (by dsimp only; omega)
              rw [h1]; rfl
            have hW : W = [] := by rw [← hWd]; exact hno
            simp (disch := first | exact trivial | omega) [szif, f0, f1, g0, g1, g2, g3, g4, hai, hg, apart, bs_size, bs_append, bs_lit, sv, k10, k11, k13, k15, k3]
            simp [hW, joinB]
            exact e0
def c63_0 : AC := .seq (.seq (.ops [⟨ some 6, none, .mv (.tmp 4) ⟩, ⟨ some 7, none, .mv (.tmp 0) ⟩, ⟨ some 8, none, .lenS true (.tmp 7) ⟩, ⟨ some 9, none, .bin .lss (.tmp 6) (.tmp 8) ⟩]) (.cond (.tmp 9) .skip (.exit 0))) (.seq (.block 1 (.seq (.ops [⟨ some 12, none, .mv (.tmp 0) ⟩, ⟨ some 13, none, .mv (.tmp 4) ⟩, ⟨ some 14, none, .iStr (.tmp 12) (.tmp 13) ⟩, ⟨ some 15, none, .bin .eql (.tmp 14) (.const (.int .u8 32)) ⟩]) (.cond (.tmp 15) (.ops [⟨ some 16, none, .mv (.tmp 3) ⟩, ⟨ some 17, none, .buildS 1 [.string ⟨ ⟨[] ⟩ ⟩] [(0, 1, .const (.string ⟨ ⟨[] ⟩ ⟩))] ⟩, ⟨ some 18, none, .app 1 16 9 (.tmp 16) (.tmp 17) ⟩, ⟨ some 3, none, .mv (.tmp 18) ⟩]) (.draw [([⟨ some 19, none, .mv (.tmp 3) ⟩, ⟨ some 20, none, .mv (.tmp 3) ⟩, ⟨ some 21, none, .lenS false (.tmp 20) ⟩, ⟨ some 22, none, .bin .sub (.tmp 21) (.const (.int .i64 1)) ⟩, ⟨ some 23, none, .mv (.tmp 3) ⟩, ⟨ some 24, none, .mv (.tmp 3) ⟩, ⟨ some 25, none, .lenS false (.tmp 24) ⟩, ⟨ some 26, none, .bin .sub (.tmp 25) (.const (.int .i64 1)) ⟩, ⟨ some 27, none, .iAddrS 1 (.tmp 23) (.tmp 26) ⟩, ⟨ some 28, none, .load none (.tmp 27) ⟩, ⟨ some 29, none, .mv (.tmp 0) ⟩, ⟨ some 30, none, .mv (.tmp 4) ⟩, ⟨ some 31, none, .mv (.tmp 4) ⟩, ⟨ some 32, none, .bin .add (.tmp 31) (.const (.int .i64 1)) ⟩, ⟨ some 33, none, .slS (.tmp 29) (some (.tmp 30)) (some (.tmp 32)) ⟩, ⟨ some 34, none, .bin .add (.tmp 28) (.tmp 33) ⟩, ⟨ some 35, none, .iAddrS 1 (.tmp 19) (.tmp 22) ⟩], [⟨ none, none, .store 1 (.tmp 35) (.tmp 34) ⟩], []), ([], [], [])])))) (.ops [⟨ some 10, none, .mv (.tmp 4) ⟩, ⟨ some 11, none, .bin .add (.tmp 10) (.const (.int .i64 1)) ⟩, ⟨ some 4, none, .mv (.tmp 11) ⟩]))
def c63 : AC := .seq (.ops [⟨ some 2, none, .mv (.const (.slice none 0 0)) ⟩]) (.seq (.ops [⟨ some 5, none, .buildS 1 [.string ⟨ ⟨[] ⟩ ⟩] [(0, 1, .const (.string ⟨ ⟨[] ⟩ ⟩))] ⟩, ⟨ some 3, none, .mv (.tmp 5) ⟩]) (.seq (.seq (.ops [⟨ some 4, none, .mv (.const (.int .i64 0)) ⟩]) (.block 0 (.loop c63_0))) (.seq (.ops [⟨ some 36, none, .mv (.tmp 3) ⟩, ⟨ some 2, none, .mv (.tmp 36) ⟩]) .ret)))
theorem k63 : compF Tryd.prog Tryd.f63 = some (c63, [2]) := by kernel_rfl
theorem n63 : Tryd.f63.ntmps = 37 := by kernel_rfl
def c65_0 : AC := .seq (.seq (.ops [⟨ some 9, none, .mv (.tmp 5) ⟩, ⟨ some 10, none, .mv (.tmp 0) ⟩, ⟨ some 11, none, .lenS true (.tmp 10) ⟩, ⟨ some 12, none, .bin .lss (.tmp 9) (.tmp 11) ⟩]) (.cond (.tmp 12) .skip (.exit 0))) (.seq (.block 1 (.seq (.ops [⟨ some 15, none, .mv (.tmp 0) ⟩, ⟨ some 16, none, .mv (.tmp 5) ⟩, ⟨ some 17, none, .iStr (.tmp 15) (.tmp 16) ⟩, ⟨ some 18, none, .bin .eql (.tmp 17) (.const (.int .u8 45)) ⟩]) (.cond (.tmp 18) (.ops [⟨ some 4, none, .mv (.const (.int .i64 (-1))) ⟩]) (.ops [⟨ some 19, none, .mv (.tmp 3) ⟩, ⟨ some 20, none, .bin .mul (.const (.int .i64 10)) (.tmp 19) ⟩, ⟨ some 21, none, .mv (.tmp 0) ⟩, ⟨ some 22, none, .mv (.tmp 5) ⟩, ⟨ some 23, none, .iStr (.tmp 21) (.tmp 22) ⟩, ⟨ some 24, none, .bin .rem (.tmp 23) (.const (.int .u8 16)) ⟩, ⟨ some 25, none, .toInt .i64 (.tmp 24) ⟩, ⟨ some 26, none, .bin .add (.tmp 20) (.tmp 25) ⟩, ⟨ some 3, none, .mv (.tmp 26) ⟩])))) (.ops [⟨ some 13, none, .mv (.tmp 5) ⟩, ⟨ some 14, none, .bin .add (.tmp 13) (.const (.int .i64 1)) ⟩, ⟨ some 5, none, .mv (.tmp 14) ⟩]))
def c65 : AC := .seq (.ops [⟨ some 2, none, .mv (.const (.int .i64 0)) ⟩]) (.seq (.ops [⟨ some 3, none, .mv (.const (.int .i64 0)) ⟩, ⟨ some 4, none, .mv (.const (.int .i64 1)) ⟩]) (.seq (.seq (.ops [⟨ some 6, none, .mv (.tmp 0) ⟩, ⟨ some 7, none, .lenS true (.tmp 6) ⟩, ⟨ some 8, none, .bin .gtr (.tmp 7) (.const (.int .i64 8)) ⟩]) (.cond (.tmp 8) (.seq (.ops [⟨ some 2, none, .mv (.const (.int .i64 0)) ⟩]) .ret) .skip)) (.seq (.seq (.ops [⟨ some 5, none, .mv (.const (.int .i64 0)) ⟩]) (.block 0 (.loop c65_0))) (.seq (.ops [⟨ some 27, none, .mv (.tmp 3) ⟩, ⟨ some 28, none, .mv (.tmp 4) ⟩, ⟨ some 29, none, .bin .mul (.tmp 27) (.tmp 28) ⟩, ⟨ some 2, none, .mv (.tmp 29) ⟩]) .ret))))
theorem k65 : compF Tryd.prog Tryd.f65 = some (c65, [2]) := by kernel_rfl
theorem n65 : Tryd.f65.ntmps = 30 := by kernel_rfl
def c90 : AC := .seq (.ops [⟨ some 2, none, .mv (.const (.int .i64 0)) ⟩]) (.seq (.seq (.ops [⟨ some 3, none, .mv (.tmp 0) ⟩, ⟨ some 4, none, .bin .geq (.tmp 3) (.const (.int .u8 97)) ⟩]) (.cond (.tmp 4) (.seq (.ops [⟨ some 5, none, .mv (.tmp 0) ⟩, ⟨ some 6, none, .bin .rem (.tmp 5) (.const (.int .u8 16)) ⟩, ⟨ some 7, none, .toInt .i64 (.tmp 6) ⟩, ⟨ some 8, none, .bin .add (.tmp 7) (.const (.int .i64 9)) ⟩, ⟨ some 2, none, .mv (.tmp 8) ⟩]) .ret) .skip)) (.seq (.ops [⟨ some 9, none, .mv (.tmp 0) ⟩, ⟨ some 10, none, .bin .rem (.tmp 9) (.const (.int .u8 16)) ⟩, ⟨ some 11, none, .toInt .i64 (.tmp 10) ⟩, ⟨ some 2, none, .mv (.tmp 11) ⟩]) .ret))
theorem k90 : compF Tryd.prog Tryd.f90 = some (c90, [2]) := by kernel_rfl
theorem n90 : Tryd.f90.ntmps = 12 := by kernel_rfl
def c64_0 : AC := .seq (.seq (.ops [⟨ some 6, none, .mv (.tmp 4) ⟩, ⟨ some 7, none, .bin .add (.tmp 6) (.const (.int .i64 1)) ⟩, ⟨ some 8, none, .mv (.tmp 0) ⟩, ⟨ some 9, none, .lenS true (.tmp 8) ⟩, ⟨ some 10, none, .bin .lss (.tmp 7) (.tmp 9) ⟩]) (.cond (.tmp 10) .skip (.exit 0))) (.seq (.block 1 (.draw [([⟨ some 13, none, .mv (.tmp 3) ⟩, ⟨ some 14, none, .mv (.tmp 0) ⟩, ⟨ some 15, none, .mv (.tmp 4) ⟩, ⟨ some 16, none, .iStr (.tmp 14) (.tmp 15) ⟩, ⟨ some 19, none, .mv (.tmp 0) ⟩, ⟨ some 20, none, .mv (.tmp 4) ⟩, ⟨ some 21, none, .bin .add (.tmp 20) (.const (.int .i64 1)) ⟩, ⟨ some 22, none, .iStr (.tmp 19) (.tmp 21) ⟩], [⟨ some 17, none, .call 90 [.tmp 16] ⟩], []), ([⟨ some 18, none, .bin .mul (.const (.int .i64 16)) (.tmp 17) ⟩], [⟨ some 23, none, .call 90 [.tmp 22] ⟩], []), ([⟨ some 24, none, .bin .add (.tmp 18) (.tmp 23) ⟩, ⟨ some 25, none, .toInt .u8 (.tmp 24) ⟩], [⟨ some 26, none, .buildS 1 [.int .u8 0] [(0, 1, .tmp 25)] ⟩], []), ([], [⟨ some 27, none, .app 1 1 5 (.tmp 13) (.tmp 26) ⟩], []), ([], [⟨ some 3, none, .mv (.tmp 27) ⟩], []), ([], [], [])])) (.ops [⟨ some 11, none, .mv (.tmp 4) ⟩, ⟨ some 12, none, .bin .add (.tmp 11) (.const (.int .i64 2)) ⟩, ⟨ some 4, none, .mv (.tmp 12) ⟩]))
def c64 : AC := .seq (.ops [⟨ some 2, none, .mv (.const (.string ⟨ ⟨[] ⟩ ⟩)) ⟩]) (.seq (.ops [⟨ some 5, none, .buildS 0 [] [] ⟩, ⟨ some 3, none, .mv (.tmp 5) ⟩]) (.seq (.seq (.ops [⟨ some 4, none, .mv (.const (.int .i64 1)) ⟩]) (.block 0 (.loop c64_0))) (.seq (.ops [⟨ some 28, none, .mv (.tmp 3) ⟩, ⟨ some 29, none, .toStr (.tmp 28) ⟩, ⟨ some 2, none, .mv (.tmp 29) ⟩]) .ret)))
theorem k64 : compF Tryd.prog Tryd.f64 = some (c64, [2]) := by kernel_rfl
theorem n64 : Tryd.f64.ntmps = 30 := by kernel_rfl
/-! words, numbers and bytes, by the document -/
theorem split_snoc (c : UInt8) : ∀ t : List UInt8, splitB c (t ++ [c]) = splitB c t ++ [[]]
  | [] => by simp [splitB]
  | y :: r => by
    have ih := split_snoc c r
    rw [List.cons_append, splitB, splitB, ih]
    split
    · rfl
    · obtain ⟨a, b, hab⟩ : ∃ a b, splitB c r = a :: b := by
        cases h : splitB c r with
        | nil => exact absurd h (split_ne c r)
        | cons a b => exact ⟨a, b, rfl⟩
      rw [hab]; rfl
theorem split_snoc' (c x : UInt8) (hx : x ≠ c) : ∀ t : List UInt8, ∃ A l, splitB c t = A ++ [l] ∧ splitB c (t ++ [x]) = A ++ [l ++ [x]]
  | [] => ⟨[], [], rfl, by simp [splitB, hx, consH]⟩
  | y :: r => by
    obtain ⟨A, l, h1, h2⟩ := split_snoc' c x hx r
    by_cases hy : y = c
    · refine ⟨[] :: A, l, ?_, ?_⟩
      · rw [splitB, if_pos hy, h1]; rfl
      · rw [List.cons_append, splitB, if_pos hy, h2]; rfl
    · cases A with
      | nil =>
        refine ⟨[], y :: l, ?_, ?_⟩
        · rw [splitB, if_neg hy, h1]; rfl
        · rw [List.cons_append, splitB, if_neg hy, h2]; rfl
      | cons a A =>
        refine ⟨(y :: a) :: A, l, ?_, ?_⟩
        · rw [splitB, if_neg hy, h1]; rfl
        · rw [List.cons_append, splitB, if_neg hy, h2]; rfl
structure WS where
  i : Nat
  nm : Nat
  v : Value
  H : Heap
/-- a list of strings that lies from h on -/
def SlW (h : Heap) (v : Value) (L : List (List UInt8)) (h' : Heap) : Prop := h.Ext h' ∧ ∃ x md e, h.n ≤ x ∧ v = .slice (some ⟨x, 0, none⟩) L.length L.length ∧ h'.cellsOf x = some (L.map sv, md, e)
theorem words_ok (s : List UInt8) (hs : s.length ≤ 1000000) (h : Heap) : ACalls Tryd.prog 63 [.string (bs s)] h fun v h' => SlW h v (splitB 32 s) h' := by
  refine acalls_of mix Tryd.func63 k63 n63 (by simp) fun hcl hb => ?_
  have fil : afill [.string (bs [])] [(0, 1, .string (bs []))] = some [sv []] := rfl
  have f0 := cellsOf_new h [sv []] .ex 1
  have c0 : (h.push (.cells [sv []] .ex 1)).Closed := closed_push hcl (o := .cells [sv []] .ex 1) (fun y hy => by simp at hy; rw [hy]; exact .string)
  have e0 := (Heap.Ext.refl h).push hcl (.cells [sv []] .ex 1)
  have n0 : (h.push (.cells [sv []] .ex 1)).n = h.n + 1 := rfl
  have l0 : LAt (h.push (.cells [sv []] .ex 1)) 1 (some h.n) (.slice (some ⟨h.n, 0, none⟩) 1 1) 1 [sv []] := .inr ⟨h.n, .ex, 1, rfl, rfl, f0, rfl, by decide, fun q => by cases q⟩
  simp only [c63, s_seq, s_ops]
  simp [bs_lit, fil]
  generalize h.push (.cells [sv []] .ex 1) = H0 at *
  refine awp_loop_of (α := WS) (fun z => z.i ≤ s.length ∧ LAt z.H 1 (some z.nm) z.v (splitB 32 (s.take z.i)).length ((splitB 32 (s.take z.i)).map sv) ∧ Gr h z.H ∧ h.n ≤ z.nm)
    (fun z => [(0, .string (bs s)), (3, z.v), (4, .int .i64 z.i)]) (fun z => z.H) (fun z => s.length - z.i) ⟨0, h.n, _, H0⟩
    ⟨Nat.zero_le _, l0, ⟨by show h.n ≤ H0.n; omega, c0, e0.m⟩, Nat.le_refl _⟩ ⟨by show h.n ≤ H0.n; omega, Nat.le_refl _, fun _ _ e => e, c0⟩ (by simp; exact ⟨.string, vb_slice (by show h.n < H0.n; omega), .int⟩) ?_
  rintro ⟨i, nm, v, H⟩ ⟨hi, hl, hg, hnm⟩
  dsimp only at hi hl hg hnm ⊢
  by_cases hlt : i < s.length
  · have hi' : (i : Int) < (s.length : Int) := by omega
    have htk : s.take (i + 1) = s.take i ++ [s[i]] := List.take_succ_eq_append_getElem hlt
    have hgt : s[i]? = some s[i] := List.getElem?_eq_getElem hlt
    have hai : aidx (.int .i64 (i : Int)) s.length = some i := aidx_of hlt
    have w4 : IntKind.i64.wrap ((i : Int) + 1) = ((i + 1 : Nat) : Int) := w1 i (by omega)
    have hlen : (splitB 32 (s.take i)).length ≤ 1000001 := by
      rw [split_len]
      have h1 := List.count_le_length (a := (32 : UInt8)) (l := s.take i)
      rw [List.length_take] at h1
      omega
    have hx1 : (bs s).extract i (i + 1) = bs [s[i]] := by rw [bs_extract, htk, List.drop_append]; simp [Nat.min_eq_left hi]
    have b1 : abounds s.length s.length (some (.int .i64 (i : Int))) (some (.int .i64 ((i + 1 : Nat) : Int))) none = some (i, i + 1, s.length) := abounds_lohi (by omega) (by omega)
    generalize s[i] = c at *
    have c32 : ((c.toNat : Int) = 32) = (c = 32) := by
      apply propext
      refine ⟨fun q => UInt8.toNat_inj.1 ?_, fun q => by rw [q]; rfl⟩
      have : (32 : UInt8).toNat = 32 := rfl
      omega
    by_cases q32 : c = 32
    · have hsp : splitB 32 (s.take (i + 1)) = splitB 32 (s.take i) ++ [[]] := by rw [htk, q32]; exact split_snoc 32 _
      obtain ⟨a, rfl, v2, H3, happ, l2, keep2, n3, c3⟩ := lat_str1 (t := 9) hg.cl hl [] (by omega)
      have hfst : afirst (H.push (.cells [sv []] .ex 1)) 1 1 (.slice (some ⟨H.n, 0, none⟩) 1 1) = some [sv []] := by
        simp only [afirst, cellsOf_new, if_true]
        rfl
      generalize splitB 32 (s.take i) = L at *
      simp [c63_0, bs_size, bs_data, hi', hai, hgt, c32, q32, bs_lit, fil, alen, hfst, happ, w4, -Int.natCast_add]
      refine ⟨⟨i + 1, H.n + 1, v2, H3⟩, by show s.length - (i + 1) < s.length - i; omega, ⟨by show i + 1 ≤ s.length; omega, ?_, ⟨by have := hg.n; show h.n ≤ H3.n; omega, c3, fun y ob q => keep2 y ob (hg.m y ob q) (fun w => by have := (hcl y ob q).1; cases w; omega)⟩, by have := hg.n; show h.n ≤ H.n + 1; omega⟩, ⟨by have := hg.n; show h.n ≤ H3.n; omega, Nat.le_refl _, fun _ _ e => e, c3⟩, .string, ⟨rfl, l2.below c3⟩, rfl, .int⟩
      show LAt H3 1 (some (H.n + 1)) v2 (splitB 32 (s.take (i + 1))).length ((splitB 32 (s.take (i + 1))).map sv)
      rw [hsp]; exact l2
    · obtain ⟨A, l, h1, h2⟩ := split_snoc' 32 c q32 (s.take i)
      rw [← htk] at h2
      have hll : l.length ≤ 1000000 := by
        have := split_le 32 (s.take i) l (by rw [h1]; simp)
        rw [List.length_take] at this; omega
      rw [h1] at hl hlen
      have hAl : (A ++ [l]).length = A.length + 1 := by simp
      rw [hAl] at hl hlen
      have hnz := hl.lt hg.cl
      obtain ⟨a, hv⟩ := hl.form
      rcases hl with ⟨q, _⟩ | ⟨x, md, ez, hx, hv2, hcell, hlc, hmd, hes⟩
      · cases q
      cases hx
      subst hv2
      have hmap : (A ++ [l]).map sv = A.map sv ++ [sv l] := by simp
      rw [hmap] at hcell
      have hga : (A.map sv ++ [sv l])[A.length]? = some (.string (bs l)) := by
        rw [List.getElem?_append_right (by simp)]; simp [sv]
      have hput : ∀ w, aput (A.map sv ++ [sv l]) A.length [w] = A.map sv ++ [w] := fun w => by
        have := put_nth (A.map sv) w (sv l) []
        rwa [List.length_map] at this
      have hia : aidx (.int .i64 (A.length : Int)) (A.length + 1) = some A.length := aidx_of (by omega)
      have w5 : IntKind.i64.wrap (A.length : Int) = (A.length : Int) := i64w _ (by omega)
      have w6 : IntKind.i64.wrap (((A.length + 1 : Nat) : Int) - 1) = (A.length : Int) := by rw [Int.natCast_add]; show IntKind.i64.wrap ((A.length : Int) + 1 - 1) = _; rw [Int.add_sub_cancel]; exact w5
      have w6' : IntKind.i64.wrap ((A.length : Int) + 1 - 1) = (A.length : Int) := by rw [Int.add_sub_cancel]; exact w5
      have hlen2 : (A.map sv ++ [sv l]).length = A.length + 1 := by simp
      have hsz : l.length + 1 ≤ 9223372036854775807 := by omega
      have hsz' : l.length ≤ 9223372036854775806 := by omega
      have hc3 : (H.set nm (.cells (A.map sv ++ [sv (l ++ [c])]) md ez)).Closed := closed_set hg.cl hnz fun y hy => by
        rcases List.mem_append.1 hy with hy | hy
        · obtain ⟨z, _, rfl⟩ := List.mem_map.1 hy; exact .string
        · rw [List.mem_singleton.1 hy]; exact .string
      have hsvv : Value.string (bs (l ++ [c])) = sv (l ++ [c]) := rfl
      have hmc : ∀ w, mcells (sv w) = some [sv w] := fun _ => rfl
      have hadd : abin .add (sv l) (.string (bs [c])) = some (sv (l ++ [c])) := by
        show abin .add (.string (bs l)) (.string (bs [c])) = _
        rw [b_sadd, if_pos (by rw [bs_size, bs_size]; simp; omega), bs_append]; rfl
      simp [c63_0, hadd, bs_size, bs_data, hi', hai, hgt, c32, q32, bs_lit, w6, w6', hia, hcell, apart, hga, hput, b1, w4, hx1, hsz, hsz', bs_append, hmc, hmd, hsvv, -Int.natCast_add]
      refine ⟨⟨i + 1, nm, _, H.set nm (.cells (A.map sv ++ [sv (l ++ [c])]) md ez)⟩, by show s.length - (i + 1) < s.length - i; omega, ⟨by show i + 1 ≤ s.length; omega, ?_, ⟨hg.n, hc3, fun y ob q => by have := (hcl y ob q).1; rw [set_m, if_neg (by omega)]; exact hg.m y ob q⟩, hnm⟩, ⟨hg.n, Nat.le_refl _, fun _ _ e => e, hc3⟩, .string, ⟨rfl, vb_slice hnz⟩, rfl, .int⟩
      show LAt _ 1 (some nm) _ (splitB 32 (s.take (i + 1))).length ((splitB 32 (s.take (i + 1))).map sv)
      rw [h2]
      have : (A ++ [l ++ [c]]).length = A.length + 1 := by simp
      rw [this]
      exact .inr ⟨nm, md, ez, rfl, rfl, by rw [cellsOf_set]; simp, by simp, hmd, hes⟩
  · have hie : i = s.length := by omega
    subst hie
    have hi' : ¬ (s.length : Int) < (s.length : Int) := by omega
    rw [List.take_of_length_le (Nat.le_refl _)] at hl
    rcases hl with ⟨q, _⟩ | ⟨x, md, ez, hx, rfl, hcell, hlc, hmd, hes⟩
    · cases q
    cases hx
    simp [c63_0, bs_size]
    exact ⟨⟨hg.n, hg.m⟩, nm, md, ez, hnm, rfl, hcell⟩
def numS (n : Nat) (c : UInt8) : Nat := if c = 45 then n else 10 * n + c.toNat % 16
def numF (w : List UInt8) : Nat := w.foldl numS 0
def sgn (w : List UInt8) : Int := if (45 : UInt8) ∈ w then -1 else 1
def numB (w : List UInt8) : Int := if 8 < w.length then 0 else (numF w : Int) * sgn w
theorem numF_snoc (w : List UInt8) (c : UInt8) : numF (w ++ [c]) = numS (numF w) c := by unfold numF; rw [List.foldl_append]; rfl
theorem numF_lt : ∀ (i : Nat) (w : List UInt8), w.length = i → numF w + 2 ≤ 2 * 10 ^ i
  | 0, w, h => by
    have : w = [] := List.length_eq_zero_iff.1 h
    subst this; decide
  | i + 1, w, h => by
    have hne : w ≠ [] := fun q => by rw [q] at h; cases h
    have hd := List.dropLast_concat_getLast hne
    have hl : w.dropLast.length = i := by rw [List.length_dropLast, h]; rfl
    have ih := numF_lt i w.dropLast hl
    have h1 : numF w = numS (numF w.dropLast) (w.getLast hne) := by
      have := numF_snoc w.dropLast (w.getLast hne)
      rw [hd] at this; exact this
    rw [h1, Nat.pow_succ]
    unfold numS
    split <;> omega
theorem numF_lt8 {w : List UInt8} (h : w.length ≤ 8) : numF w ≤ 200000000 := by
  have h1 := numF_lt w.length w rfl
  have h2 : 10 ^ w.length ≤ 10 ^ 8 := Nat.pow_le_pow_right (by omega) h
  omega
theorem numF_dec {u : Nat} : ∀ w : List UInt8, (∀ c ∈ w, isDig c) → ∀ n, w.foldl numS n = w.foldl (fun n c => 10 * n + (c.toNat - 48)) n
  | [], _, n => rfl
  | c :: w, h, n => by
    have hc := h c (by simp)
    unfold isDig at hc
    have : numS n c = 10 * n + (c.toNat - 48) := by
      unfold numS
      rw [if_neg (fun q => by rw [q] at hc; have h45 : (45 : UInt8).toNat = 45 := rfl; omega)]
      omega
    rw [List.foldl_cons, List.foldl_cons, this]
    exact numF_dec (u := u) w (fun x hx => h x (by simp [hx])) _
theorem numB_itoa (m : Int) (h1 : -1000000 ≤ m) (h2 : m ≤ 1000000) : numB (itoaB m) = m := by
  have hl : ∀ u : Nat, u ≤ 1000000 → (dec u).length ≤ 7 := fun u hu => by
    rw [dec_len]; exact ndig_small (u := u) (k := 7) (by omega) (by omega) (by omega)
  have hv : ∀ u : Nat, u ≤ 1000000 → numF (dec u) = u := fun u hu => by
    have h3 := dec_val u (by omega)
    unfold numF
    rw [numF_dec (u := u) (dec u) (dec_dig u)]
    exact h3
  unfold itoaB
  split
  · have h3 := hl m.natAbs (by omega)
    have h4 := hv m.natAbs (by omega)
    unfold numB
    rw [if_neg (by simp; omega)]
    have h5 : sgn (45 :: dec m.natAbs) = -1 := by unfold sgn; rw [if_pos (by simp)]
    have h6 : numF (45 :: dec m.natAbs) = numF (dec m.natAbs) := rfl
    rw [h5, h6, h4]; omega
  · have h3 := hl m.toNat (by omega)
    have h4 := hv m.toNat (by omega)
    unfold numB
    rw [if_neg (by omega)]
    have h5 : sgn (dec m.toNat) = 1 := by unfold sgn; rw [if_neg (dec_no 45 (by decide) _)]
    rw [h5, h4]; omega
theorem number_ok (w : List UInt8) (h : Heap) : ACalls Tryd.prog 65 [.string (bs w)] h fun v h' => v = .int .i64 (numB w) ∧ h' = h := by
  refine ACalls.same .int (acalls_of mix Tryd.func65 k65 n65 (by simp) fun hcl hb => ?_)
  by_cases hw : 8 < w.length
  · have hw' : (8 : Int) < (w.length : Int) := by omega
    have : numB w = 0 := by unfold numB; rw [if_pos hw]
    simp [c65, bs_size, hw, hw', this]
    exact Heap.Ext.refl h
  · have hw' : ¬ (8 : Int) < (w.length : Int) := by omega
    have hnb : numB w = (numF w : Int) * sgn w := by unfold numB; rw [if_neg hw]
    simp only [c65, s_seq, s_ops]
    simp [bs_size, hw, hw']
    refine awp_loop_of (α := KS) (fun z => z.i ≤ w.length) (fun z => [(0, .string (bs w)), (3, .int .i64 (numF (w.take z.i))), (4, .int .i64 (sgn (w.take z.i))), (5, .int .i64 z.i)]) (fun _ => h) (fun z => w.length - z.i) ⟨0⟩
      (Nat.zero_le _) (Heap.Sub.refl hcl) (by simp; exact ⟨.string, ⟨rfl, .int⟩, ⟨rfl, .int⟩, .int⟩) ?_
    rintro ⟨i⟩ hi
    dsimp only at hi ⊢
    by_cases hlt : i < w.length
    · have hi' : (i : Int) < (w.length : Int) := by omega
      have htk : w.take (i + 1) = w.take i ++ [w[i]] := List.take_succ_eq_append_getElem hlt
      have hgt : w[i]? = some w[i] := List.getElem?_eq_getElem hlt
      have hai : aidx (.int .i64 (i : Int)) w.length = some i := aidx_of hlt
      have w4 : IntKind.i64.wrap ((i : Int) + 1) = ((i + 1 : Nat) : Int) := w1 i (by omega)
      have hn8 := numF_lt8 (w := w.take i) (by rw [List.length_take]; omega)
      have hs1 : numF (w.take (i + 1)) = numS (numF (w.take i)) w[i] := by rw [htk]; exact numF_snoc _ _
      have hs2 : sgn (w.take (i + 1)) = if w[i] = 45 then -1 else sgn (w.take i) := by
        rw [htk]; unfold sgn
        by_cases q : w[i] = 45
        · rw [if_pos q, if_pos (by rw [q]; simp)]
        · rw [if_neg q]
          have : ((45 : UInt8) ∈ w.take i ++ [w[i]]) = ((45 : UInt8) ∈ w.take i) := by
            rw [List.mem_append, List.mem_singleton]; exact propext ⟨fun x => x.resolve_right (fun y => q y.symm), Or.inl⟩
          simp only [this]
      generalize w[i] = c at *
      generalize numF (w.take i) = N at *
      have c45 : ((c.toNat : Int) = 45) = (c = 45) := by
        apply propext
        refine ⟨fun q => UInt8.toNat_inj.1 ?_, fun q => by rw [q]; rfl⟩
        have : (45 : UInt8).toNat = 45 := rfl
        omega
      have goal : ∃ y : KS, w.length - y.i < w.length - i ∧ y.i ≤ w.length ∧ h.Sub h.n h ∧ VBelow h.n (.string (bs w)) ∧ ((numS N c : Nat) : Int) = (numF (w.take y.i) : Int) ∧ (if c = 45 then -1 else sgn (w.take i)) = sgn (w.take y.i) ∧ i + 1 = y.i :=
        ⟨⟨i + 1⟩, by show w.length - (i + 1) < w.length - i; omega, by show i + 1 ≤ w.length; omega, Heap.Sub.refl hcl, .string, by show _ = (numF (w.take (i + 1)) : Int); rw [hs1], by show _ = sgn (w.take (i + 1)); rw [hs2], rfl⟩
      obtain ⟨y, y1, y2, y3, y4, y5, y6, y7⟩ := goal
      by_cases q45 : c = 45
      · have hN : numS N c = N := by unfold numS; rw [if_pos q45]
        rw [hN] at y5
        rw [if_pos q45] at y6
        simp [c65_0, bs_size, bs_data, hi', hai, hgt, c45, q45, w4, -Int.natCast_add]
        exact ⟨y, y1, y2, y3, y4, ⟨by omega, .int⟩, ⟨y6, .int⟩, by omega, .int⟩
      · have hc := c.toNat_lt
        have q2 : (c.toNat : Int).tmod 16 = ((c.toNat % 16 : Nat) : Int) := rfl
        have w8 : IntKind.i64.wrap ((c.toNat % 16 : Nat) : Int) = ((c.toNat % 16 : Nat) : Int) := i64w _ (by omega)
        have w9 : IntKind.i64.wrap (10 * (N : Int)) = ((10 * N : Nat) : Int) := by rw [IntWalk.i64_in _ (by omega)]; omega
        have w10 : IntKind.i64.wrap (((10 * N : Nat) : Int) + ((c.toNat % 16 : Nat) : Int)) = ((numS N c : Nat) : Int) := by
          rw [IntWalk.i64_in _ (by omega)]; unfold numS; rw [if_neg q45]; omega
        rw [if_neg q45] at y6
        simp [c65_0, bs_size, bs_data, hi', hai, hgt, c45, q45, q2, w8, w9, w10, w4, -Int.natCast_add, -Int.natCast_emod, -Int.natCast_mul]
        exact ⟨y, y1, y2, y3, y4, ⟨by omega, .int⟩, ⟨y6, .int⟩, by omega, .int⟩
    · have hie : i = w.length := by omega
      subst hie
      have hi' : ¬ (w.length : Int) < (w.length : Int) := by omega
      rw [List.take_of_length_le (Nat.le_refl _)]
      have hn8 := numF_lt8 (w := w) (by omega)
      have ws : IntKind.i64.wrap ((numF w : Int) * sgn w) = numB w := by
        rw [hnb]
        refine IntWalk.i64_in _ ?_
        unfold sgn
        split <;> omega
      simp [c65_0, bs_size, ws]
      exact Heap.Ext.refl h
def dgV (c : UInt8) : Nat := if 97 ≤ c.toNat then c.toNat % 16 + 9 else c.toNat % 16
theorem digit_ok (c : UInt8) (h : Heap) : ACalls Tryd.prog 90 [.int .u8 (c.toNat : Int)] h fun v h' => v = .int .i64 (dgV c : Nat) ∧ h' = h := by
  refine acalls_of mix Tryd.func90 k90 n90 (by simp) fun hcl hb => ?_
  have hc := c.toNat_lt
  have q2 : (c.toNat : Int).tmod 16 = ((c.toNat % 16 : Nat) : Int) := rfl
  have w8 : IntKind.i64.wrap ((c.toNat % 16 : Nat) : Int) = ((c.toNat % 16 : Nat) : Int) := i64w _ (by omega)
  have w9 : IntKind.i64.wrap (((c.toNat % 16 : Nat) : Int) + 9) = ((c.toNat % 16 + 9 : Nat) : Int) := by rw [IntWalk.i64_in _ (by omega)]; omega
  by_cases q : 97 ≤ c.toNat
  · have q' : (97 : Int) ≤ (c.toNat : Int) := by omega
    have hd : dgV c = c.toNat % 16 + 9 := by unfold dgV; rw [if_pos q]
    rw [hd]
    simp [c90, q', q2, w8, w9, -Int.natCast_add, -Int.natCast_emod]
  · have q' : ¬ (97 : Int) ≤ (c.toNat : Int) := by omega
    have hd : dgV c = c.toNat % 16 := by unfold dgV; rw [if_neg q]
    rw [hd]
    simp [c90, q', q2, w8, -Int.natCast_emod]
def pairB : List UInt8 → List UInt8
  | a :: b :: r => UInt8.ofNat (16 * dgV a + dgV b) :: pairB r
  | _ => []
def bytesB (w : List UInt8) : List UInt8 := pairB (w.drop 1)
theorem pairB_hex : ∀ s : List UInt8, pairB (hexB s) = s
  | [] => rfl
  | c :: s => by
    have ih := pairB_hex s
    have h1 : hexB (c :: s) = dg (c.toNat / 16) :: dg (c.toNat % 16) :: hexB s := rfl
    have hd : ∀ u, u < 16 → dgV (dg u) = u := fun u hu => by
      have : ∀ j : Fin 16, dgV (dg j.val) = j.val := by decide
      exact this ⟨u, hu⟩
    have hc := c.toNat_lt
    rw [h1, pairB, ih, hd _ (by omega), hd _ (by omega), u8_hl]
theorem bytesB_word (s : List UInt8) : bytesB (wordB s) = s := pairB_hex s
theorem pairB_len : ∀ w : List UInt8, (pairB w).length ≤ w.length
  | [] => by simp [pairB]
  | [_] => by simp [pairB]
  | a :: b :: r => by have := pairB_len r; simp [pairB]; omega
theorem bytesB_len (w : List UInt8) : (bytesB w).length ≤ w.length := by
  have := pairB_len (w.drop 1)
  rw [List.length_drop] at this
  unfold bytesB; omega
theorem rbytes_ok (w : List UInt8) (hw : w.length ≤ 1000000) (h : Heap) : ACalls Tryd.prog 64 [.string (bs w)] h fun v h' => v = sv (bytesB w) ∧ h' = h := by
  refine ACalls.same .string (acalls_of mix Tryd.func64 k64 n64 (by simp) fun hcl hb => ?_)
  have e0 := (Heap.Ext.refl h).push hcl (.cells [] .ex 1)
  have c0 : (h.push (.cells [] .ex 1)).Closed := closed_push hcl (fun y hy => by cases hy)
  have n0 : (h.push (.cells [] .ex 1)).n = h.n + 1 := rfl
  have l0 := LAt.made h 1
  simp only [c64, s_seq, s_ops]
  have fil0 : afill [] [] = some [] := rfl
  simp [fil0]
  generalize h.push (.cells [] .ex 1) = H0 at *
  refine awp_loop_of (α := YS) (fun z => z.r = w.drop (1 + 2 * z.T.length) ∧ 2 * z.T.length ≤ w.length ∧ z.T ++ pairB z.r = bytesB w ∧ LAt z.H 1 z.nm z.v z.T.length (ubs z.T) ∧ Gr h z.H ∧ ∀ x, z.nm = some x → h.n ≤ x)
    (fun z => [(0, .string (bs w)), (3, z.v), (4, .int .i64 ((1 + 2 * z.T.length : Nat) : Int))]) (fun z => z.H) (fun z => z.r.length) ⟨[], w.drop 1, some h.n, _, H0⟩
    ⟨rfl, Nat.zero_le _, rfl, l0, ⟨by show h.n ≤ H0.n; omega, c0, e0.m⟩, fun x e => by cases e; exact Nat.le_refl _⟩ ⟨by show h.n ≤ H0.n; omega, Nat.le_refl _, fun _ _ e => e, c0⟩ (by simp; exact ⟨.string, vb_slice (by show h.n < H0.n; omega), .int⟩) ?_
  rintro ⟨T, r, nm, v, H⟩ ⟨hr, hT, hp, hl, hg, hnm⟩
  dsimp only at hr hT hp hl hg hnm ⊢
  have hrl : r.length = w.length - (1 + 2 * T.length) := by rw [hr, List.length_drop]
  have w2 : IntKind.i64.wrap (((1 + 2 * T.length : Nat) : Int) + 1) = ((1 + 2 * T.length + 1 : Nat) : Int) := w1 _ (by omega)
  have w3 : IntKind.i64.wrap (((1 + 2 * T.length : Nat) : Int) + 2) = ((1 + 2 * T.length + 2 : Nat) : Int) := by rw [IntWalk.i64_in _ (by omega)]; omega
  by_cases hlt : 2 ≤ r.length
  · obtain ⟨a, b, r2, rfl⟩ : ∃ a b r2, r = a :: b :: r2 := by
      match r, hlt with
      | a :: b :: r2, _ => exact ⟨a, b, r2, rfl⟩
    have hg1 : w[1 + 2 * T.length]? = some a := by
      have := congrArg (fun l => l[0]?) hr
      simpa using this.symm
    have hg2 : w[1 + 2 * T.length + 1]? = some b := by
      have := congrArg (fun l => l[1]?) hr
      simpa using this.symm
    have hr2 : r2 = w.drop (1 + 2 * T.length + 2) := by
      have := congrArg (fun l => l.drop 2) hr
      simpa [List.drop_drop] using this
    have hpr : pairB (a :: b :: r2) = UInt8.ofNat (16 * dgV a + dgV b) :: pairB r2 := rfl
    rw [hpr] at hp
    have hll : (a :: b :: r2).length = r2.length + 2 := rfl
    rw [hll] at hrl
    have hda : dgV a ≤ 24 := by unfold dgV; split <;> omega
    have hdb : dgV b ≤ 24 := by unfold dgV; split <;> omega
    have hj : ((1 + 2 * T.length + 1 : Nat) : Int) < (w.length : Int) := by omega
    have ha1 : aidx (.int .i64 ((1 + 2 * T.length : Nat) : Int)) w.length = some (1 + 2 * T.length) := aidx_of (by omega)
    have ha2 : aidx (.int .i64 ((1 + 2 * T.length + 1 : Nat) : Int)) w.length = some (1 + 2 * T.length + 1) := aidx_of (by omega)
    have w5 : IntKind.i64.wrap (16 * ((dgV a : Nat) : Int)) = ((16 * dgV a : Nat) : Int) := by rw [IntWalk.i64_in _ (by omega)]; omega
    have w6 : IntKind.i64.wrap (((16 * dgV a : Nat) : Int) + ((dgV b : Nat) : Int)) = ((16 * dgV a + dgV b : Nat) : Int) := by rw [IntWalk.i64_in _ (by omega)]; omega
    have w7 : IntKind.u8.wrap ((16 * dgV a + dgV b : Nat) : Int) = ((UInt8.ofNat (16 * dgV a + dgV b)).toNat : Int) := by
      rw [UInt8.toNat_ofNat']
      unfold IntKind.wrap; simp [IntKind.bits, IntKind.signed]
    obtain ⟨a', rfl, v2, H2, happ, l2, keep2, n3, c3⟩ := lat_bytes hg.cl hl [UInt8.ofNat (16 * dgV a + dgV b)] (by simp) (by simp; omega)
    have fil2 : ∀ z, afill [.int .u8 0] [(0, 1, .int .u8 ((UInt8.toNat z : Nat) : Int))] = some (ubs [z]) := fun _ => rfl
    have hfst : ∀ z, afirst (H.push (.cells (ubs [z]) .ex 1)) 1 1 (.slice (some ⟨H.n, 0, none⟩) 1 1) = some (ubs [z]) := fun z => by
      simp only [afirst, cellsOf_new, if_true]
      rfl
    have hlw : [UInt8.ofNat (16 * dgV a + dgV b)].length = 1 := rfl
    rw [hlw] at happ
    generalize hz : UInt8.ofNat (16 * dgV a + dgV b) = z at *
    have hjj : (1 + 2 * (T ++ [z]).length : Nat) = 1 + 2 * T.length + 2 := by simp; omega
    generalize hJ : 1 + 2 * T.length = j at *
    simp [c64_0, bs_size, bs_data, w2, hj, ha1, ha2, hg1, hg2, -Int.natCast_add]
    refine (digit_ok a H).mono ?_
    rintro _ h9 ⟨rfl, e'⟩
    rw [e']; clear e' h9
    simp [w5, -Int.natCast_add, -Int.natCast_mul]
    refine (digit_ok b H).mono ?_
    rintro _ h9 ⟨rfl, e'⟩
    rw [e']; clear e' h9
    simp [w5, w6, w7, fil2, hfst, happ, alen, w3, -Int.natCast_add, -Int.natCast_mul]
    refine ⟨⟨T ++ [z], r2, some (H.n + 1), v2, H2⟩, by show r2.length < r2.length + 1 + 1; omega, ⟨by show r2 = w.drop (1 + 2 * (T ++ [z]).length); rw [hjj]; exact hr2, by show 2 * (T ++ [z]).length ≤ w.length; simp; omega, by show (T ++ [z]) ++ pairB r2 = _; rw [← hp]; simp, l2, ⟨by have := hg.n; show h.n ≤ H2.n; omega, c3, fun yy ob e => keep2 yy ob (hg.m yy ob e) (fun q => by have := hnm yy q; have := (hcl yy ob e).1; omega)⟩, fun xx e => by cases e; have := hg.n; show h.n ≤ H.n + 1; omega⟩, ⟨by have := hg.n; show h.n ≤ H2.n; omega, Nat.le_refl _, fun _ _ e => e, c3⟩, .string, ⟨rfl, l2.below c3⟩, by show _ = ((1 + 2 * (T ++ [z]).length : Nat) : Int); rw [hjj], .int⟩
  · have hj : ¬ ((1 + 2 * T.length + 1 : Nat) : Int) < (w.length : Int) := by omega
    have hpn : pairB r = [] := by
      match r, hlt with
      | [], _ => rfl
      | [_], _ => rfl
      | _ :: _ :: _, q => exact absurd (by simp) q
    rw [hpn, List.append_nil] at hp
    rw [← hp]
    rcases lat_str hl with ⟨rfl, q⟩ | ⟨x, rfl, hfs⟩
    · subst q
      have hj2 : ¬ (2 : Int) < (w.length : Int) := by simp at hj; omega
      have w22 : IntKind.i64.wrap ((1 : Int) + 1) = 2 := rfl
      have w23 : IntKind.i64.wrap (2 : Int) = 2 := rfl
      simp [c64_0, bs_size, hj2, w22, w23]
      exact ⟨rfl, hg.n, hg.m⟩
    · generalize 1 + 2 * T.length = j at *
      simp [c64_0, bs_size, w2, hj, hfs, abytes_ubs, -Int.natCast_add]
      exact ⟨rfl, hg.n, hg.m⟩
def c34_0 : AC := .seq (.seq (.ops [⟨ some 13, none, .mv (.tmp 7) ⟩, ⟨ some 14, none, .mv (.tmp 6) ⟩, ⟨ some 15, none, .lenS false (.tmp 14) ⟩, ⟨ some 16, none, .bin .lss (.tmp 13) (.tmp 15) ⟩]) (.cond (.tmp 16) .skip (.exit 0))) (.seq (.block 1 (.seq (.draw [([⟨ some 19, none, .mv (.tmp 6) ⟩, ⟨ some 20, none, .mv (.tmp 7) ⟩, ⟨ some 21, none, .iAddrS 1 (.tmp 19) (.tmp 20) ⟩, ⟨ some 22, none, .load none (.tmp 21) ⟩, ⟨ some 23, none, .mv (.tmp 4) ⟩, ⟨ some 24, none, .iAddrS 1 (.tmp 23) (.const (.int .i64 0)) ⟩, ⟨ some 25, none, .load none (.tmp 24) ⟩, ⟨ some 26, none, .bin .eql (.tmp 22) (.tmp 25) ⟩], [], [])]) (.cond (.tmp 26) (.ops [⟨ some 27, none, .mv (.tmp 7) ⟩, ⟨ some 28, none, .fAddr 0 (.tmp 5) ⟩, ⟨ none, none, .store 1 (.tmp 28) (.tmp 27) ⟩]) .skip))) (.ops [⟨ some 17, none, .mv (.tmp 7) ⟩, ⟨ some 18, none, .bin .add (.tmp 17) (.const (.int .i64 1)) ⟩, ⟨ some 7, none, .mv (.tmp 18) ⟩]))
def c34 : AC := .seq (.ops [⟨ some 2, none, .alloc [.int .i64 0, .int .i64 0, .int .i64 0, .int .i64 0, .string ⟨ ⟨[] ⟩ ⟩] ⟩, ⟨ some 3, none, .mv (.const (.bool false)) ⟩]) (.seq (.ops [⟨ some 9, none, .mv (.tmp 0) ⟩, ⟨ some 10, none, .call 63 [.tmp 9] ⟩, ⟨ some 4, none, .mv (.tmp 10) ⟩]) (.seq (.ops [⟨ some 11, none, .build [.int .i64 0, .int .i64 0, .int .i64 0, .int .i64 0, .string ⟨ ⟨[] ⟩ ⟩] [] ⟩, ⟨ some 5, none, .alloc [.int .i64 0, .int .i64 0, .int .i64 0, .int .i64 0, .string ⟨ ⟨[] ⟩ ⟩] ⟩, ⟨ none, none, .store 5 (.tmp 5) (.tmp 11) ⟩]) (.seq (.ops [⟨ some 12, none, .call 62 [] ⟩, ⟨ some 6, none, .mv (.tmp 12) ⟩]) (.seq (.seq (.ops [⟨ some 7, none, .mv (.const (.int .i64 1)) ⟩]) (.block 0 (.loop c34_0))) (.seq (.ops [⟨ some 29, none, .buildS 16 [.int .i64 0, .int .i64 0, .int .i64 0, .int .i64 0, .int .i64 0, .int .i64 0, .int .i64 0, .int .i64 0, .int .i64 0, .int .i64 0, .int .i64 0, .int .i64 0, .int .i64 0, .int .i64 0, .int .i64 0, .int .i64 0] [(0, 1, .const (.int .i64 0)), (1, 1, .const (.int .i64 1)), (2, 1, .const (.int .i64 1)), (3, 1, .const (.int .i64 2)), (4, 1, .const (.int .i64 1)), (5, 1, .const (.int .i64 1)), (6, 1, .const (.int .i64 1)), (7, 1, .const (.int .i64 1)), (8, 1, .const (.int .i64 1)), (9, 1, .const (.int .i64 1)), (10, 1, .const (.int .i64 2)), (11, 1, .const (.int .i64 2)), (12, 1, .const (.int .i64 1)), (13, 1, .const (.int .i64 4)), (14, 1, .const (.int .i64 1)), (15, 1, .const (.int .i64 3))] ⟩, ⟨ some 8, none, .mv (.tmp 29) ⟩]) (.seq (.seq (.ops [⟨ some 30, none, .fAddr 0 (.tmp 5) ⟩, ⟨ some 31, none, .load none (.tmp 30) ⟩, ⟨ some 32, none, .bin .eql (.tmp 31) (.const (.int .i64 0)) ⟩, ⟨ some 33, none, .mv (.tmp 32) ⟩, ⟨ some 34, some (33, false), .mv (.tmp 4) ⟩, ⟨ some 35, some (33, false), .lenS false (.tmp 34) ⟩, ⟨ some 36, some (33, false), .mv (.tmp 8) ⟩, ⟨ some 37, some (33, false), .fAddr 0 (.tmp 5) ⟩, ⟨ some 38, some (33, false), .load none (.tmp 37) ⟩, ⟨ some 39, some (33, false), .iAddrS 1 (.tmp 36) (.tmp 38) ⟩, ⟨ some 40, some (33, false), .load none (.tmp 39) ⟩, ⟨ some 41, some (33, false), .bin .neq (.tmp 35) (.tmp 40) ⟩, ⟨ some 42, none, .pick (.tmp 33) (.const (.bool true)) (.tmp 41) ⟩]) (.cond (.tmp 42) (.seq (.ops [⟨ some 43, none, .build [.int .i64 0, .int .i64 0, .int .i64 0, .int .i64 0, .string ⟨ ⟨[] ⟩ ⟩] [] ⟩, ⟨ none, none, .store 5 (.tmp 2) (.tmp 43) ⟩, ⟨ some 3, none, .mv (.const (.bool false)) ⟩]) .ret) .skip)) (.seq (.seq (.ops [⟨ some 44, none, .fAddr 0 (.tmp 5) ⟩, ⟨ some 45, none, .load none (.tmp 44) ⟩, ⟨ some 46, none, .bin .eql (.tmp 45) (.const (.int .i64 3)) ⟩]) (.cond (.tmp 46) (.ops [⟨ some 47, none, .mv (.tmp 4) ⟩, ⟨ some 48, none, .iAddrS 1 (.tmp 47) (.const (.int .i64 1)) ⟩, ⟨ some 49, none, .load none (.tmp 48) ⟩, ⟨ some 50, none, .call 64 [.tmp 49] ⟩, ⟨ some 51, none, .fAddr 4 (.tmp 5) ⟩, ⟨ none, none, .store 1 (.tmp 51) (.tmp 50) ⟩]) (.seq (.ops [⟨ some 52, none, .mv (.tmp 4) ⟩, ⟨ some 53, none, .lenS false (.tmp 52) ⟩, ⟨ some 54, none, .bin .gtr (.tmp 53) (.const (.int .i64 1)) ⟩]) (.cond (.tmp 54) (.ops [⟨ some 55, none, .mv (.tmp 4) ⟩, ⟨ some 56, none, .iAddrS 1 (.tmp 55) (.const (.int .i64 1)) ⟩, ⟨ some 57, none, .load none (.tmp 56) ⟩, ⟨ some 58, none, .call 65 [.tmp 57] ⟩, ⟨ some 59, none, .fAddr 1 (.tmp 5) ⟩, ⟨ none, none, .store 1 (.tmp 59) (.tmp 58) ⟩]) .skip)))) (.seq (.seq (.ops [⟨ some 60, none, .fAddr 0 (.tmp 5) ⟩, ⟨ some 61, none, .load none (.tmp 60) ⟩, ⟨ some 62, none, .bin .eql (.tmp 61) (.const (.int .i64 13)) ⟩]) (.cond (.tmp 62) (.draw [([⟨ some 63, none, .mv (.tmp 4) ⟩, ⟨ some 64, none, .iAddrS 1 (.tmp 63) (.const (.int .i64 2)) ⟩, ⟨ some 65, none, .load none (.tmp 64) ⟩, ⟨ some 67, none, .mv (.tmp 4) ⟩, ⟨ some 68, none, .iAddrS 1 (.tmp 67) (.const (.int .i64 3)) ⟩, ⟨ some 69, none, .load none (.tmp 68) ⟩], [⟨ some 66, none, .call 65 [.tmp 65] ⟩], [⟨ some 69, none, .load none (.tmp 68) ⟩]), ([⟨ some 71, none, .fAddr 2 (.tmp 5) ⟩], [⟨ some 70, none, .call 65 [.tmp 69] ⟩], []), ([], [⟨ none, none, .store 1 (.tmp 71) (.tmp 66) ⟩], []), ([⟨ some 72, none, .fAddr 3 (.tmp 5) ⟩], [⟨ none, none, .store 1 (.tmp 72) (.tmp 70) ⟩], []), ([], [], [])]) .skip)) (.seq (.seq (.ops [⟨ some 73, none, .fAddr 0 (.tmp 5) ⟩, ⟨ some 74, none, .load none (.tmp 73) ⟩, ⟨ some 75, none, .bin .eql (.tmp 74) (.const (.int .i64 15)) ⟩]) (.cond (.tmp 75) (.ops [⟨ some 76, none, .mv (.tmp 4) ⟩, ⟨ some 77, none, .iAddrS 1 (.tmp 76) (.const (.int .i64 2)) ⟩, ⟨ some 78, none, .load none (.tmp 77) ⟩, ⟨ some 79, none, .call 64 [.tmp 78] ⟩, ⟨ some 80, none, .fAddr 4 (.tmp 5) ⟩, ⟨ none, none, .store 1 (.tmp 80) (.tmp 79) ⟩]) .skip)) (.seq (.seq (.ops [⟨ some 81, none, .load (some 5) (.tmp 5) ⟩, ⟨ some 82, none, .call 28 [.tmp 81] ⟩, ⟨ some 83, none, .un .not (.tmp 82) ⟩, ⟨ some 84, none, .mv (.tmp 83) ⟩, ⟨ some 85, some (84, false), .fAddr 3 (.tmp 5) ⟩, ⟨ some 86, some (84, false), .load none (.tmp 85) ⟩, ⟨ some 87, some (84, false), .bin .lss (.tmp 86) (.const (.int .i64 0)) ⟩, ⟨ some 88, none, .pick (.tmp 84) (.const (.bool true)) (.tmp 87) ⟩, ⟨ some 89, none, .mv (.tmp 88) ⟩, ⟨ some 90, some (89, false), .fAddr 3 (.tmp 5) ⟩, ⟨ some 91, some (89, false), .load none (.tmp 90) ⟩, ⟨ some 92, some (89, false), .bin .gtr (.tmp 91) (.const (.int .i64 255)) ⟩, ⟨ some 93, none, .pick (.tmp 89) (.const (.bool true)) (.tmp 92) ⟩, ⟨ some 94, none, .mv (.tmp 93) ⟩, ⟨ some 95, some (94, false), .load (some 5) (.tmp 5) ⟩, ⟨ some 96, some (94, false), .call 33 [.tmp 95] ⟩, ⟨ some 97, some (94, false), .mv (.tmp 0) ⟩, ⟨ some 98, some (94, false), .bin .neq (.tmp 96) (.tmp 97) ⟩, ⟨ some 99, none, .pick (.tmp 94) (.const (.bool true)) (.tmp 98) ⟩]) (.cond (.tmp 99) (.seq (.ops [⟨ some 100, none, .build [.int .i64 0, .int .i64 0, .int .i64 0, .int .i64 0, .string ⟨ ⟨[] ⟩ ⟩] [] ⟩, ⟨ none, none, .store 5 (.tmp 2) (.tmp 100) ⟩, ⟨ some 3, none, .mv (.const (.bool false)) ⟩]) .ret) .skip)) (.seq (.ops [⟨ some 101, none, .load (some 5) (.tmp 5) ⟩, ⟨ none, none, .store 5 (.tmp 2) (.tmp 101) ⟩, ⟨ some 3, none, .mv (.const (.bool true)) ⟩]) .ret)))))))))))
theorem k34 : compR Tryd.prog Tryd.f34 = some (c34, [.c 2 (some 5), .t 3]) := by kernel_rfl
theorem n34 : Tryd.f34.ntmps = 102 := by kernel_rfl
/-! the document reads a line -/
def needI : List Int := [0, 1, 1, 2, 1, 1, 1, 1, 1, 1, 2, 2, 1, 4, 1, 3]
def needL : List Value := needI.map (Value.int .i64)
def FE (κ : Int) (L : List (List UInt8)) : Ev :=
  { k := κ, a := if κ = 10 ∨ κ = 11 ∨ κ = 13 ∨ κ = 15 then numB (L.getD 1 []) else 0, s := if κ = 3 then bytesB (L.getD 1 []) else if κ = 15 then bytesB (L.getD 2 []) else [],
    b := if κ = 13 then numB (L.getD 2 []) else 0, m := if κ = 13 then numB (L.getD 3 []) else 0 }
theorem fe_right {e : Ev} (h : RightE e) : FE e.k (nmB e.k :: ltW e (ltB e.k)) = e := by
  obtain ⟨hr, hm⟩ := (right_iff e).1 h
  have ra := numB_itoa e.a (fit_rng hr.a).1 (fit_rng hr.a).2
  have rb := numB_itoa e.b (fit_rng hr.b).1 (fit_rng hr.b).2
  have rm := numB_itoa e.m (by omega) (by omega)
  have rs := bytesB_word e.s
  obtain ⟨h1, _, _, _, h2, h3, h4⟩ := hr
  obtain ⟨k, a, s, b, m⟩ := e
  dsimp only at *
  have hk : k = 1 ∨ k = 2 ∨ k = 3 ∨ k = 4 ∨ k = 5 ∨ k = 6 ∨ k = 7 ∨ k = 8 ∨ k = 9 ∨ k = 10 ∨ k = 11 ∨ k = 12 ∨ k = 13 ∨ k = 14 ∨ k = 15 := by omega
  rcases hk with rfl | rfl | rfl | rfl | rfl | rfl | rfl | rfl | rfl | rfl | rfl | rfl | rfl | rfl | rfl
  all_goals simp at h2 h3 h4
  all_goals simp [FE, ltB, lettersL, ltW, wv, numOf, ra, rb, rm, rs]
  all_goals simp_all
theorem set_push2 (h : Heap) (o o' o2 o3 : AObj) : (((h.push o).push o2).push o3).set h.n o' = ((h.push o').push o2).push o3 := by
  have h1 := set_push1 h o o' o2
  unfold Heap.set Heap.push at *
  congr 1
  funext x
  dsimp only at *
  by_cases q1 : x = h.n
  · subst q1
    rw [if_pos rfl, if_neg (by omega), if_neg (by omega), if_pos rfl]
  · rw [if_neg q1]
    by_cases q2 : x = h.n + 1 + 1
    · rw [if_pos q2, if_pos q2]
    · rw [if_neg q2, if_neg q2]
      by_cases q3 : x = h.n + 1
      · rw [if_pos q3, if_pos q3]
      · rw [if_neg q3, if_neg q3, if_neg q1, if_neg q1]
def PaR (s : List UInt8) (v : Value) : Prop := (∀ e, RightE e → s = lineB e → v = .tuple #[.agg (rv e).toArray, .bool true]) ∧ ((∀ e, RightE e → s ≠ lineB e) → v = .tuple #[.agg (rv (zE 0)).toArray, .bool false])
def KI (l0 : List UInt8) (κ k : Nat) : Prop := (κ = 0 ∧ ∀ j : Nat, 1 ≤ j → j < k → nmB j ≠ l0) ∨ (1 ≤ κ ∧ κ < k ∧ nmB κ = l0)
structure KKS where
  k : Nat
  κ : Nat
theorem rParse_ok (s : List UInt8) (hs : s.length ≤ 10000) (h : Heap) : ACalls Tryd.prog 34 [.string (bs s)] h fun v h' => PaR s v ∧ h' = h := by
  refine ACalls.same' (R := PaR s) (fun v hv => ?_) (acalls_ofR mix Tryd.func34 k34 n34 (by simp) fun hcl hb => ?_)
  · by_cases q : ∃ e, RightE e ∧ s = lineB e
    · obtain ⟨e, h1, h2⟩ := q
      rw [hv.1 e h1 h2]; exact vb_tup2 (rv_agg _ _) .bool
    · rw [hv.2 fun e h1 h2 => q ⟨e, h1, h2⟩]; exact vb_tup2 (rv_agg _ _) .bool
  have zz : ([.int .i64 0, .int .i64 0, .int .i64 0, .int .i64 0, .string (bs [])] : List Value) = rv (zE 0) := rfl
  have zz4 : afill (rv (zE 0)) [] = some (rv (zE 0)) := rfl
  have hl5 : ∀ e, (rv e).length = 5 := fun _ => rfl
  have hpe : ∀ e e2, aput (rv e) 0 (rv e2) = rv e2 := fun _ _ => rfl
  have f0 := cellsOf_new h (rv (zE 0)) .ex 1
  have c0 : (h.push (.cells (rv (zE 0)) .ex 1)).Closed := closed_push hcl rv_bel
  have e0 := (Heap.Ext.refl h).push hcl (.cells (rv (zE 0)) .ex 1)
  have n0 : (h.push (.cells (rv (zE 0)) .ex 1)).n = h.n + 1 := rfl
  have m0 := m_of_cells f0
  simp only [c34, s_seq, s_ops]
  simp [bs_lit, zz]
  generalize h.push (.cells (rv (zE 0)) .ex 1) = H0 at *
  refine (words_ok s (by omega) H0).mono' ?_
  rintro _ H1 c1 _ ⟨e1, x, md, ez, hx, rfl, hcell⟩
  have f1 : H1.cellsOf h.n = some (rv (zE 0), .ex, 1) := by
    unfold Heap.cellsOf; rw [e1.m _ _ m0]
  have n1 := e1.n
  have xn := cellsOf_lt c1 hcell
  have e01 := e0.trans e1
  have hright : ∀ e', RightE e' → s = lineB e' → splitB 32 s = nmB e'.k :: ltW e' (ltB e'.k) := fun e' _ q => by rw [q]; exact line_split e'
  have hsplen := split_le 32 s
  have hLlen : (splitB 32 s).length ≤ 10001 := by
    rw [split_len]
    have := List.count_le_length (a := (32 : UInt8)) (l := s)
    omega
  obtain ⟨l0, L', hLe⟩ : ∃ l0 L', splitB 32 s = l0 :: L' := by
    cases hq : splitB 32 s with
    | nil => exact absurd hq (split_ne 32 s)
    | cons a b => exact ⟨a, b, rfl⟩
  generalize splitB 32 s = L at *
  subst hLe
  have nog : ∀ v : Value, v = .tuple #[.agg (rv (zE 0)).toArray, .bool false] → (∀ e, RightE e → s ≠ lineB e) → PaR s v := fun v hv hn => ⟨fun e h1 h2 => absurd h2 (hn e h1), fun _ => hv⟩
  -- the heaps
  have hQc : ∀ e, ((H1.push (.cells (rv e) .ex 1)).push (.cells (namesL.map sv) .ex 1)).Closed := fun e => closed_push (closed_push c1 rv_bel) (fun y hy => by obtain ⟨z, _, rfl⟩ := List.mem_map.1 hy; exact .string)
  have hPc : ∀ e, (((H1.push (.cells (rv e) .ex 1)).push (.cells (namesL.map sv) .ex 1)).push (.cells needL .ex 1)).Closed := fun e => closed_push (hQc e) (fun y hy => by obtain ⟨z, _, rfl⟩ := List.mem_map.1 hy; exact .int)
  have hQ0 : ∀ e, ((H1.push (.cells (rv e) .ex 1)).push (.cells (namesL.map sv) .ex 1)).cellsOf h.n = some (rv (zE 0), .ex, 1) := fun e => by
    rw [cellsOf_ne (by show ¬ h.n = H1.n + 1; omega), cellsOf_ne (by omega)]; exact f1
  have hQx : ∀ e, ((H1.push (.cells (rv e) .ex 1)).push (.cells (namesL.map sv) .ex 1)).cellsOf x = some ((l0 :: L').map sv, md, ez) := fun e => by
    rw [cellsOf_ne (by show ¬ x = H1.n + 1; omega), cellsOf_ne (by omega)]; exact hcell
  have hQe : ∀ e, ((H1.push (.cells (rv e) .ex 1)).push (.cells (namesL.map sv) .ex 1)).cellsOf H1.n = some (rv e, .ex, 1) := fun e => by
    rw [cellsOf_ne (by show ¬ H1.n = H1.n + 1; omega)]; exact cellsOf_new _ _ _ _
  have hQn : ∀ e, ((H1.push (.cells (rv e) .ex 1)).push (.cells (namesL.map sv) .ex 1)).cellsOf (H1.n + 1) = some (namesL.map sv, .ex, 1) := fun e => cellsOf_new (H1.push (.cells (rv e) .ex 1)) _ _ _
  have hQs : ∀ e e2, ((H1.push (.cells (rv e) .ex 1)).push (.cells (namesL.map sv) .ex 1)).set H1.n (.cells (rv e2) .ex 1) = (H1.push (.cells (rv e2) .ex 1)).push (.cells (namesL.map sv) .ex 1) := fun e e2 => set_push1 H1 _ _ _
  have hP0 : ∀ e, (((H1.push (.cells (rv e) .ex 1)).push (.cells (namesL.map sv) .ex 1)).push (.cells needL .ex 1)).cellsOf h.n = some (rv (zE 0), .ex, 1) := fun e => by
    rw [cellsOf_ne (by show ¬ h.n = H1.n + 1 + 1; omega)]; exact hQ0 e
  have hPx : ∀ e, (((H1.push (.cells (rv e) .ex 1)).push (.cells (namesL.map sv) .ex 1)).push (.cells needL .ex 1)).cellsOf x = some ((l0 :: L').map sv, md, ez) := fun e => by
    rw [cellsOf_ne (by show ¬ x = H1.n + 1 + 1; omega)]; exact hQx e
  have hPe : ∀ e, (((H1.push (.cells (rv e) .ex 1)).push (.cells (namesL.map sv) .ex 1)).push (.cells needL .ex 1)).cellsOf H1.n = some (rv e, .ex, 1) := fun e => by
    rw [cellsOf_ne (by show ¬ H1.n = H1.n + 1 + 1; omega)]; exact hQe e
  have hPn : ∀ e, (((H1.push (.cells (rv e) .ex 1)).push (.cells (namesL.map sv) .ex 1)).push (.cells needL .ex 1)).cellsOf (H1.n + 1 + 1) = some (needL, .ex, 1) := fun e => cellsOf_new ((H1.push (.cells (rv e) .ex 1)).push (.cells (namesL.map sv) .ex 1)) _ _ _
  have hPs : ∀ e e2, (((H1.push (.cells (rv e) .ex 1)).push (.cells (namesL.map sv) .ex 1)).push (.cells needL .ex 1)).set H1.n (.cells (rv e2) .ex 1) = ((H1.push (.cells (rv e2) .ex 1)).push (.cells (namesL.map sv) .ex 1)).push (.cells needL .ex 1) := fun e e2 => set_push2 H1 _ _ _ _
  have hPx' : ∀ e, h.Ext (((H1.push (.cells (rv e) .ex 1)).push (.cells (namesL.map sv) .ex 1)).push (.cells needL .ex 1)) := fun e => ((e01.push hcl _).push hcl _).push hcl _
  have e3 : ∀ H : Heap, h.Ext H → ∀ o, h.Ext (H.set h.n o) := fun H q o => ⟨q.n, fun b ob eb => by have := (hcl b ob eb).1; rw [set_m, if_neg (by omega)]; exact q.m b ob eb⟩
  have rv0 : ∀ e, (rv e)[0]? = some (.int .i64 e.k) := fun _ => rfl
  have rvz : ∀ κ, (rv (zE κ))[0]? = some (.int .i64 κ) := fun _ => rfl
  have pk : ∀ a b : Int, aput (rv (zE a)) 0 [.int .i64 b] = rv (zE b) := fun _ _ => rfl
  simp [zz, zz4, cellsOf_new, mc_rv, hl5, hpe, set_push]
  refine (names_ok _).mono ?_
  rintro _ h9 ⟨rfl, e'⟩
  rw [e']; clear e' h9
  have nn : (H1.push (.cells (rv (zE 0)) .ex 1)).n = H1.n + 1 := rfl
  rw [nn]
  simp
  refine awp_loop_of (α := KKS) (fun z => 1 ≤ z.k ∧ z.k ≤ 16 ∧ KI l0 z.κ z.k)
    (fun z => [(0, .string (bs s)), (2, .pointer (some ⟨h.n, 0, none⟩)), (4, .slice (some ⟨x, 0, none⟩) (L'.length + 1) (L'.length + 1)), (5, .pointer (some ⟨H1.n, 0, none⟩)), (6, .slice (some ⟨H1.n + 1, 0, none⟩) 16 16), (7, .int .i64 z.k)])
    (fun z => (H1.push (.cells (rv (zE z.κ)) .ex 1)).push (.cells (namesL.map sv) .ex 1)) (fun z => 16 - z.k) ⟨1, 0⟩
    ⟨Nat.le_refl _, by show 1 ≤ 16; omega, .inl ⟨rfl, fun j h1 h2 => by exfalso; have : j < 1 := h2; omega⟩⟩ ⟨by show h.n ≤ H1.n + 1 + 1; omega, Nat.le_refl _, fun _ _ e => e, hQc _⟩
    (by simp; exact ⟨.string, .ptr (by show h.n < H1.n + 1 + 1; omega), vb_slice (by show x < H1.n + 1 + 1; omega), .ptr (by show H1.n < H1.n + 1 + 1; omega), vb_slice (by show H1.n + 1 < H1.n + 1 + 1; omega), .int⟩) ?_
  rintro ⟨k, κ⟩ ⟨hk1, hk16, hK⟩
  dsimp only at hk1 hk16 hK ⊢
  have hget0 : ((l0 :: L').map sv)[0]? = some (sv l0) := rfl
  have i0 : aidx (.int .i64 0) (L'.length + 1) = some 0 := aidx_of (i := 0) (by omega)
  have hsv0 : sv l0 = .string (bs l0) := rfl
  by_cases hlt : k < 16
  · have hi' : (k : Int) < 16 := by omega
    have w4 : IntKind.i64.wrap ((k : Int) + 1) = ((k + 1 : Nat) : Int) := w1 k (by omega)
    have hgk : (namesL.map sv)[k]? = some (.string (bs (nmB k))) := by
      have h1 : nmB k = namesL[k]'hlt := by
        unfold nmB
        rw [if_pos (by omega)]
        show namesL.getD k [] = _
        rw [List.getD, List.getElem?_eq_getElem (show k < namesL.length from hlt)]; rfl
      rw [List.getElem?_map, List.getElem?_eq_getElem (show k < namesL.length from hlt), h1]; rfl
    have bel : ∀ κ' : Nat, (∀ p ∈ [(0, Value.string (bs s)), (2, .pointer (some ⟨h.n, 0, none⟩)), (4, .slice (some ⟨x, 0, none⟩) (L'.length + 1) (L'.length + 1)), (5, .pointer (some ⟨H1.n, 0, none⟩)), (6, .slice (some ⟨H1.n + 1, 0, none⟩) 16 16)], VBelow (H1.n + 1 + 1) p.2) := fun κ' p hp => by
      simp at hp
      rcases hp with rfl | rfl | rfl | rfl | rfl
      · exact .string
      · exact .ptr (by show h.n < H1.n + 1 + 1; omega)
      · exact vb_slice (by show x < H1.n + 1 + 1; omega)
      · exact .ptr (by show H1.n < H1.n + 1 + 1; omega)
      · exact vb_slice (by show H1.n + 1 < H1.n + 1 + 1; omega)
    by_cases hn : nmB k = l0
    · have hK2 : KI l0 k (k + 1) := .inr ⟨hk1, by omega, hn⟩
      simp [c34_0, hi', aidx_of hlt, hQn, apart, hgk, i0, hQx, hsv0, hn, hQe, pk, hQs, hl5, mcells, w4, -Int.natCast_add]
      exact ⟨⟨k + 1, k⟩, by show 16 - (k + 1) < 16 - k; omega, ⟨by show 1 ≤ k + 1; omega, by show k + 1 ≤ 16; omega, hK2⟩, ⟨by show h.n ≤ H1.n + 1 + 1; omega, Nat.le_refl _, fun _ _ e => e, hQc _⟩, .string, .ptr (by show h.n < H1.n + 1 + 1; omega), vb_slice (by show x < H1.n + 1 + 1; omega), .ptr (by show H1.n < H1.n + 1 + 1; omega), vb_slice (by show H1.n + 1 < H1.n + 1 + 1; omega), rfl, .int⟩
    · have hne : ¬ bs (nmB k) = bs l0 := fun q => hn (bs_inj.1 q)
      have hK2 : KI l0 κ (k + 1) := by
        rcases hK with ⟨h1, h2⟩ | ⟨h1, h2, h3⟩
        · refine .inl ⟨h1, fun j j1 j2 => ?_⟩
          by_cases hj : j = k
          · subst hj; exact hn
          · exact h2 j j1 (by omega)
        · exact .inr ⟨h1, by omega, h3⟩
      simp [c34_0, hi', aidx_of hlt, hQn, apart, hgk, i0, hQx, hsv0, hne, w4, -Int.natCast_add]
      exact ⟨⟨k + 1, κ⟩, by show 16 - (k + 1) < 16 - k; omega, ⟨by show 1 ≤ k + 1; omega, by show k + 1 ≤ 16; omega, hK2⟩, ⟨by show h.n ≤ H1.n + 1 + 1; omega, Nat.le_refl _, fun _ _ e => e, hQc _⟩, .string, .ptr (by show h.n < H1.n + 1 + 1; omega), vb_slice (by show x < H1.n + 1 + 1; omega), .ptr (by show H1.n < H1.n + 1 + 1; omega), vb_slice (by show H1.n + 1 < H1.n + 1 + 1; omega), rfl, .int⟩
  · have hke : k = 16 := by omega
    subst hke
    have fin : afill [.int .i64 0, .int .i64 0, .int .i64 0, .int .i64 0, .int .i64 0, .int .i64 0, .int .i64 0, .int .i64 0, .int .i64 0, .int .i64 0, .int .i64 0, .int .i64 0, .int .i64 0, .int .i64 0, .int .i64 0, .int .i64 0]
        [(0, 1, .int .i64 0), (1, 1, .int .i64 1), (2, 1, .int .i64 1), (3, 1, .int .i64 2), (4, 1, .int .i64 1), (5, 1, .int .i64 1), (6, 1, .int .i64 1), (7, 1, .int .i64 1), (8, 1, .int .i64 1), (9, 1, .int .i64 1), (10, 1, .int .i64 2), (11, 1, .int .i64 2), (12, 1, .int .i64 1), (13, 1, .int .i64 4), (14, 1, .int .i64 1), (15, 1, .int .i64 3)] = some needL := rfl
    simp [c34_0, fin]
    have rg0 : ∀ e hh, (rv e)[0]'hh = .int .i64 e.k := fun _ _ => rfl
    have rg3 : ∀ e hh, (rv e)[3]'hh = .int .i64 e.m := fun _ _ => rfl
    have rq0 : ∀ e, (rv e)[0]? = some (.int .i64 e.k) := fun _ => rfl
    have rq3 : ∀ e, (rv e)[3]? = some (.int .i64 e.m) := fun _ => rfl
    have kz : ∀ κ, (zE κ).k = κ := fun _ => rfl
    have kf : ∀ κ L, (FE κ L).k = κ := fun _ _ => rfl
    rcases hK with ⟨hκ, hno⟩ | ⟨hκ1, hκ2, hκn⟩
    · subst hκ
      simp [hPe, hP0, rg0, rq0, kz, kf, apart, bs_lit, zz, zz4, mc_rv, hl5, hpe, cellsOf_set, acut_rv]
      refine ⟨nog _ rfl fun e he hq => ?_, e3 _ (hPx' _) _⟩
      have h1 := hright e he hq
      simp only [List.cons.injEq] at h1
      have hk := he.cl.k
      exact hno e.k.toNat (by omega) (by omega) (by rw [show ((e.k.toNat : Nat) : Int) = e.k by omega]; exact h1.1.symm)
    · have hr2 : ∀ e', RightE e' → s = lineB e' → e'.k = κ ∧ FE κ (l0 :: L') = e' ∧ L'.length = (ltB κ).length := fun e' h1 h2 => by
        have h3 := hright e' h1 h2
        have h4 := h3
        simp only [List.cons.injEq] at h4
        have hki := nmB_inj ⟨by omega, by omega⟩ h1.cl.k (hκn.trans h4.1)
        have h5 := fe_right h1
        rw [← h3, ← hki] at h5
        refine ⟨hki.symm, h5, ?_⟩
        rw [h4.2, ← hki]; simp [ltW]
      have hnd : ∀ j : Fin 16, 1 ≤ j.val → needI[j.val]? = some (((lettersL.getD j.val []).length + 1 : Nat) : Int) := by decide
      have hltκ : ltB κ = lettersL.getD κ [] := by unfold ltB; rw [if_pos (by omega)]; rfl
      have hneed : needL[κ]? = some (.int .i64 (((ltB κ).length + 1 : Nat) : Int)) := by
        rw [hltκ]
        show (needI.map (Value.int .i64))[κ]? = _
        rw [List.getElem?_map, hnd ⟨κ, hκ2⟩ hκ1]; rfl
      have hκ0 : ¬ κ = 0 := by omega
      have hκ0' : ¬ (κ : Int) = 0 := by omega
      by_cases hlen : L'.length = (ltB κ).length
      · have hlen' : ((L'.length + 1 : Nat) : Int) = (((ltB κ).length + 1 : Nat) : Int) := by rw [hlen]
        have hll : ∀ j : Fin 16, (j.val = 3 → (lettersL.getD j.val []).length = 1) ∧ (j.val = 13 → (lettersL.getD j.val []).length = 3) ∧ (j.val = 15 → (lettersL.getD j.val []).length = 2) ∧ ((j.val = 10 ∨ j.val = 11) → (lettersL.getD j.val []).length = 1) ∧ ((j.val = 0 ∨ j.val = 3 ∨ j.val = 13 ∨ j.val = 15 ∨ j.val = 10 ∨ j.val = 11) ∨ (lettersL.getD j.val []).length = 0) := by decide
        have hlκ := hll ⟨κ, hκ2⟩
        dsimp only at hlκ
        rw [← hltκ, ← hlen] at hlκ
        have hw : ∀ w ∈ L', w.length ≤ 10000 := fun w hw => by have := hsplen w (by simp [hw]); omega
        simp [hPe, hPn, rg0, rq0, kz, kf, apart, hκ0, hκ0', aidx_of hκ2, hneed, hlen', -Int.natCast_add]
        have hmc : ∀ w, mcells (sv w) = some [sv w] := fun _ => rfl
        have hmi : ∀ w : Int, mcells (.int .i64 w) = some [.int .i64 w] := fun _ => rfl
        by_cases k3 : κ = 3
        · subst k3
          have hLm : L'.length = 1 := by omega
          obtain ⟨w1, rfl⟩ : ∃ w1, L' = [w1] := by
            match L', hLm with
            | [a], _ => exact ⟨a, rfl⟩
          have i1 : aidx (.int .i64 1) (1 + 1) = some 1 := aidx_of (i := 1) (by omega)
          have gl1 : ((l0 :: [w1]).map sv)[1]? = some (.string (bs w1)) := rfl
          have hr3 : ∀ e', RightE e' → s = lineB e' → FE (3 : Int) (l0 :: [w1]) = e' := fun e' h1 h2 => (hr2 e' h1 h2).2.1
          have p3 : aput (rv (zE (3 : Int))) 4 [sv (bytesB w1)] = rv (FE (3 : Int) (l0 :: [w1])) := rfl
          simp [hPe, hPn, hPx, rg0, rq0, kz, kf, apart, hl5, hmc, hmi, hPs, i1, gl1, p3, -Int.natCast_add]
          refine (rbytes_ok w1 (by have := hw w1 (by simp); omega) _).mono ?_
          rintro _ h9 ⟨rfl, e'⟩
          rw [e']; clear e' h9
          simp [hPe, hPn, hPx, rg0, rq0, kz, kf, apart, hl5, hmc, hmi, hPs, i1, gl1, p3, -Int.natCast_add]
          refine (refRt_ok (FE (3 : Int) (l0 :: [w1])) _).mono ?_
          rintro _ h9 ⟨⟨b, rfl, hbR⟩, e'⟩
          rw [e']; clear e' h9
          cases b with
          | false =>
            simp [hPe, hPn, hPx, hP0, rg0, rq0, rg3, rq3, kz, kf, apart, aun, bs_lit, zz, zz4, mc_rv, hl5, hpe, cellsOf_set, acut_rv, -Int.natCast_add]
            exact ⟨nog _ rfl fun e he hq => (by have := hbR.2 ((right_iff _).1 (by rw [(hr3 e he hq)]; exact he)).1; cases this), e3 _ (hPx' _) _⟩
          | true =>
            have hRR := hbR.1 rfl
            by_cases qm : (FE (3 : Int) (l0 :: [w1])).m < 0
            · simp [qm, hPe, hPn, hPx, hP0, rg0, rq0, rg3, rq3, kz, kf, apart, aun, bs_lit, zz, zz4, mc_rv, hl5, hpe, cellsOf_set, acut_rv, -Int.natCast_add]
              exact ⟨nog _ rfl fun e he hq => (by have := he.m; rw [← (hr3 e he hq)] at this; omega), e3 _ (hPx' _) _⟩
            · by_cases qm2 : 255 < (FE (3 : Int) (l0 :: [w1])).m
              · simp [qm, qm2, hPe, hPn, hPx, hP0, rg0, rq0, rg3, rq3, kz, kf, apart, aun, bs_lit, zz, zz4, mc_rv, hl5, hpe, cellsOf_set, acut_rv, -Int.natCast_add]
                exact ⟨nog _ rfl fun e he hq => (by have := he.m; rw [← (hr3 e he hq)] at this; omega), e3 _ (hPx' _) _⟩
              · simp [qm, qm2, hPe, hPn, hPx, hP0, rg0, rq0, rg3, rq3, kz, kf, apart, aun, bs_lit, zz, zz4, mc_rv, hl5, hpe, cellsOf_set, acut_rv, -Int.natCast_add]
                refine (rPrint_ok (FE (3 : Int) (l0 :: [w1])) hRR (by omega) _).mono ?_
                rintro _ h9 ⟨rfl, e'⟩
                rw [e']; clear e' h9
                have hsl : sv (lineB (FE (3 : Int) (l0 :: [w1]))) = .string (bs (lineB (FE (3 : Int) (l0 :: [w1])))) := rfl
                by_cases hls : lineB (FE (3 : Int) (l0 :: [w1])) = s
                · have hsl' : sv (lineB (FE (3 : Int) (l0 :: [w1]))) = .string (bs s) := by rw [hsl, hls]
                  simp [hsl', hPe, hPn, hPx, hP0, rg0, rq0, rg3, rq3, kz, kf, apart, aun, bs_lit, zz, zz4, mc_rv, hl5, hpe, cellsOf_set, acut_rv, -Int.natCast_add]
                  exact ⟨⟨fun e h1 h2 => (by rw [(hr3 e h1 h2)]), fun hn => absurd hls.symm (hn _ ((right_iff _).2 ⟨hRR, by omega⟩))⟩, e3 _ (hPx' _) _⟩
                · have hne : ¬ bs (lineB (FE (3 : Int) (l0 :: [w1]))) = bs s := fun q => hls (bs_inj.1 q)
                  simp [hsl, hne, hPe, hPn, hPx, hP0, rg0, rq0, rg3, rq3, kz, kf, apart, aun, bs_lit, zz, zz4, mc_rv, hl5, hpe, cellsOf_set, acut_rv, -Int.natCast_add]
                  exact ⟨nog _ rfl fun e he hq => hls (by rw [(hr3 e he hq)]; exact hq.symm), e3 _ (hPx' _) _⟩
        · by_cases k13 : κ = 13
          · subst k13
            have hLm : L'.length = 3 := by omega
            obtain ⟨w1, w2, w3, rfl⟩ : ∃ w1 w2 w3, L' = [w1, w2, w3] := by
              match L', hLm with
              | [a, b, c], _ => exact ⟨a, b, c, rfl⟩
            have i1 : aidx (.int .i64 1) (3 + 1) = some 1 := aidx_of (i := 1) (by omega)
            have gl1 : ((l0 :: [w1, w2, w3]).map sv)[1]? = some (.string (bs w1)) := rfl
            have i2 : aidx (.int .i64 2) (3 + 1) = some 2 := aidx_of (i := 2) (by omega)
            have gl2 : ((l0 :: [w1, w2, w3]).map sv)[2]? = some (.string (bs w2)) := rfl
            have i3 : aidx (.int .i64 3) (3 + 1) = some 3 := aidx_of (i := 3) (by omega)
            have gl3 : ((l0 :: [w1, w2, w3]).map sv)[3]? = some (.string (bs w3)) := rfl
            have hr3 : ∀ e', RightE e' → s = lineB e' → FE (13 : Int) (l0 :: [w1, w2, w3]) = e' := fun e' h1 h2 => (hr2 e' h1 h2).2.1
            have p1 : aput (rv (zE 13)) 1 [.int .i64 (numB w1)] = rv ⟨13, numB w1, [], 0, 0⟩ := rfl
            have p2 : aput (rv ⟨13, numB w1, [], 0, 0⟩) 2 [.int .i64 (numB w2)] = rv ⟨13, numB w1, [], numB w2, 0⟩ := rfl
            have p3 : aput (rv ⟨13, numB w1, [], numB w2, 0⟩) 3 [.int .i64 (numB w3)] = rv (FE (13 : Int) (l0 :: [w1, w2, w3])) := rfl
            simp [hPe, hPn, hPx, rg0, rq0, kz, kf, apart, hl5, hmc, hmi, hPs, i1, gl1, i2, gl2, i3, gl3, p1, p2, p3, -Int.natCast_add]
            refine (number_ok w1 _).mono ?_
            rintro _ h9 ⟨rfl, e'⟩
            rw [e']; clear e' h9
            simp [hPe, hPn, hPx, rg0, rq0, kz, kf, apart, hl5, hmc, hmi, hPs, i1, gl1, i2, gl2, i3, gl3, p1, p2, p3, -Int.natCast_add]
            refine (number_ok w2 _).mono ?_
            rintro _ h9 ⟨rfl, e'⟩
            rw [e']; clear e' h9
            simp [hPe, hPn, hPx, rg0, rq0, kz, kf, apart, hl5, hmc, hmi, hPs, i1, gl1, i2, gl2, i3, gl3, p1, p2, p3, -Int.natCast_add]
            refine (number_ok w3 _).mono ?_
            rintro _ h9 ⟨rfl, e'⟩
            rw [e']; clear e' h9
            simp [hPe, hPn, hPx, rg0, rq0, kz, kf, apart, hl5, hmc, hmi, hPs, i1, gl1, i2, gl2, i3, gl3, p1, p2, p3, -Int.natCast_add]
            refine (refRt_ok (FE (13 : Int) (l0 :: [w1, w2, w3])) _).mono ?_
            rintro _ h9 ⟨⟨b, rfl, hbR⟩, e'⟩
            rw [e']; clear e' h9
            cases b with
            | false =>
              simp [hPe, hPn, hPx, hP0, rg0, rq0, rg3, rq3, kz, kf, apart, aun, bs_lit, zz, zz4, mc_rv, hl5, hpe, cellsOf_set, acut_rv, -Int.natCast_add]
              exact ⟨nog _ rfl fun e he hq => (by have := hbR.2 ((right_iff _).1 (by rw [(hr3 e he hq)]; exact he)).1; cases this), e3 _ (hPx' _) _⟩
            | true =>
              have hRR := hbR.1 rfl
              by_cases qm : (FE (13 : Int) (l0 :: [w1, w2, w3])).m < 0
              · simp [qm, hPe, hPn, hPx, hP0, rg0, rq0, rg3, rq3, kz, kf, apart, aun, bs_lit, zz, zz4, mc_rv, hl5, hpe, cellsOf_set, acut_rv, -Int.natCast_add]
                exact ⟨nog _ rfl fun e he hq => (by have := he.m; rw [← (hr3 e he hq)] at this; omega), e3 _ (hPx' _) _⟩
              · by_cases qm2 : 255 < (FE (13 : Int) (l0 :: [w1, w2, w3])).m
                · simp [qm, qm2, hPe, hPn, hPx, hP0, rg0, rq0, rg3, rq3, kz, kf, apart, aun, bs_lit, zz, zz4, mc_rv, hl5, hpe, cellsOf_set, acut_rv, -Int.natCast_add]
                  exact ⟨nog _ rfl fun e he hq => (by have := he.m; rw [← (hr3 e he hq)] at this; omega), e3 _ (hPx' _) _⟩
                · simp [qm, qm2, hPe, hPn, hPx, hP0, rg0, rq0, rg3, rq3, kz, kf, apart, aun, bs_lit, zz, zz4, mc_rv, hl5, hpe, cellsOf_set, acut_rv, -Int.natCast_add]
                  refine (rPrint_ok (FE (13 : Int) (l0 :: [w1, w2, w3])) hRR (by omega) _).mono ?_
                  rintro _ h9 ⟨rfl, e'⟩
                  rw [e']; clear e' h9
                  have hsl : sv (lineB (FE (13 : Int) (l0 :: [w1, w2, w3]))) = .string (bs (lineB (FE (13 : Int) (l0 :: [w1, w2, w3])))) := rfl
                  by_cases hls : lineB (FE (13 : Int) (l0 :: [w1, w2, w3])) = s
                  · have hsl' : sv (lineB (FE (13 : Int) (l0 :: [w1, w2, w3]))) = .string (bs s) := by rw [hsl, hls]
                    simp [hsl', hPe, hPn, hPx, hP0, rg0, rq0, rg3, rq3, kz, kf, apart, aun, bs_lit, zz, zz4, mc_rv, hl5, hpe, cellsOf_set, acut_rv, -Int.natCast_add]
                    exact ⟨⟨fun e h1 h2 => (by rw [(hr3 e h1 h2)]), fun hn => absurd hls.symm (hn _ ((right_iff _).2 ⟨hRR, by omega⟩))⟩, e3 _ (hPx' _) _⟩
                  · have hne : ¬ bs (lineB (FE (13 : Int) (l0 :: [w1, w2, w3]))) = bs s := fun q => hls (bs_inj.1 q)
                    simp [hsl, hne, hPe, hPn, hPx, hP0, rg0, rq0, rg3, rq3, kz, kf, apart, aun, bs_lit, zz, zz4, mc_rv, hl5, hpe, cellsOf_set, acut_rv, -Int.natCast_add]
                    exact ⟨nog _ rfl fun e he hq => hls (by rw [(hr3 e he hq)]; exact hq.symm), e3 _ (hPx' _) _⟩
          · by_cases k15 : κ = 15
            · subst k15
              have hLm : L'.length = 2 := by omega
              obtain ⟨w1, w2, rfl⟩ : ∃ w1 w2, L' = [w1, w2] := by
                match L', hLm with
                | [a, b], _ => exact ⟨a, b, rfl⟩
              have i1 : aidx (.int .i64 1) (2 + 1) = some 1 := aidx_of (i := 1) (by omega)
              have gl1 : ((l0 :: [w1, w2]).map sv)[1]? = some (.string (bs w1)) := rfl
              have i2 : aidx (.int .i64 2) (2 + 1) = some 2 := aidx_of (i := 2) (by omega)
              have gl2 : ((l0 :: [w1, w2]).map sv)[2]? = some (.string (bs w2)) := rfl
              have hr3 : ∀ e', RightE e' → s = lineB e' → FE (15 : Int) (l0 :: [w1, w2]) = e' := fun e' h1 h2 => (hr2 e' h1 h2).2.1
              have p1 : aput (rv (zE 15)) 1 [.int .i64 (numB w1)] = rv ⟨15, numB w1, [], 0, 0⟩ := rfl
              have p2 : aput (rv ⟨15, numB w1, [], 0, 0⟩) 4 [sv (bytesB w2)] = rv (FE (15 : Int) (l0 :: [w1, w2])) := rfl
              simp [hPe, hPn, hPx, rg0, rq0, kz, kf, apart, hl5, hmc, hmi, hPs, i1, gl1, i2, gl2, p1, p2, -Int.natCast_add]
              refine (number_ok w1 _).mono ?_
              rintro _ h9 ⟨rfl, e'⟩
              rw [e']; clear e' h9
              simp [hPe, hPn, hPx, rg0, rq0, kz, kf, apart, hl5, hmc, hmi, hPs, i1, gl1, i2, gl2, p1, p2, -Int.natCast_add]
              refine (rbytes_ok w2 (by have := hw w2 (by simp); omega) _).mono ?_
              rintro _ h9 ⟨rfl, e'⟩
              rw [e']; clear e' h9
              simp [hPe, hPn, hPx, rg0, rq0, kz, kf, apart, hl5, hmc, hmi, hPs, i1, gl1, i2, gl2, p1, p2, -Int.natCast_add]
              refine (refRt_ok (FE (15 : Int) (l0 :: [w1, w2])) _).mono ?_
              rintro _ h9 ⟨⟨b, rfl, hbR⟩, e'⟩
              rw [e']; clear e' h9
              cases b with
              | false =>
                simp [hPe, hPn, hPx, hP0, rg0, rq0, rg3, rq3, kz, kf, apart, aun, bs_lit, zz, zz4, mc_rv, hl5, hpe, cellsOf_set, acut_rv, -Int.natCast_add]
                exact ⟨nog _ rfl fun e he hq => (by have := hbR.2 ((right_iff _).1 (by rw [(hr3 e he hq)]; exact he)).1; cases this), e3 _ (hPx' _) _⟩
              | true =>
                have hRR := hbR.1 rfl
                by_cases qm : (FE (15 : Int) (l0 :: [w1, w2])).m < 0
                · simp [qm, hPe, hPn, hPx, hP0, rg0, rq0, rg3, rq3, kz, kf, apart, aun, bs_lit, zz, zz4, mc_rv, hl5, hpe, cellsOf_set, acut_rv, -Int.natCast_add]
                  exact ⟨nog _ rfl fun e he hq => (by have := he.m; rw [← (hr3 e he hq)] at this; omega), e3 _ (hPx' _) _⟩
                · by_cases qm2 : 255 < (FE (15 : Int) (l0 :: [w1, w2])).m
                  · simp [qm, qm2, hPe, hPn, hPx, hP0, rg0, rq0, rg3, rq3, kz, kf, apart, aun, bs_lit, zz, zz4, mc_rv, hl5, hpe, cellsOf_set, acut_rv, -Int.natCast_add]
                    exact ⟨nog _ rfl fun e he hq => (by have := he.m; rw [← (hr3 e he hq)] at this; omega), e3 _ (hPx' _) _⟩
                  · simp [qm, qm2, hPe, hPn, hPx, hP0, rg0, rq0, rg3, rq3, kz, kf, apart, aun, bs_lit, zz, zz4, mc_rv, hl5, hpe, cellsOf_set, acut_rv, -Int.natCast_add]
                    refine (rPrint_ok (FE (15 : Int) (l0 :: [w1, w2])) hRR (by omega) _).mono ?_
                    rintro _ h9 ⟨rfl, e'⟩
                    rw [e']; clear e' h9
                    have hsl : sv (lineB (FE (15 : Int) (l0 :: [w1, w2]))) = .string (bs (lineB (FE (15 : Int) (l0 :: [w1, w2])))) := rfl
                    by_cases hls : lineB (FE (15 : Int) (l0 :: [w1, w2])) = s
                    · have hsl' : sv (lineB (FE (15 : Int) (l0 :: [w1, w2]))) = .string (bs s) := by rw [hsl, hls]
                      simp [hsl', hPe, hPn, hPx, hP0, rg0, rq0, rg3, rq3, kz, kf, apart, aun, bs_lit, zz, zz4, mc_rv, hl5, hpe, cellsOf_set, acut_rv, -Int.natCast_add]
                      exact ⟨⟨fun e h1 h2 => (by rw [(hr3 e h1 h2)]), fun hn => absurd hls.symm (hn _ ((right_iff _).2 ⟨hRR, by omega⟩))⟩, e3 _ (hPx' _) _⟩
                    · have hne : ¬ bs (lineB (FE (15 : Int) (l0 :: [w1, w2]))) = bs s := fun q => hls (bs_inj.1 q)
                      simp [hsl, hne, hPe, hPn, hPx, hP0, rg0, rq0, rg3, rq3, kz, kf, apart, aun, bs_lit, zz, zz4, mc_rv, hl5, hpe, cellsOf_set, acut_rv, -Int.natCast_add]
                      exact ⟨nog _ rfl fun e he hq => hls (by rw [(hr3 e he hq)]; exact hq.symm), e3 _ (hPx' _) _⟩
            · by_cases k10 : κ = 10
              · subst k10
                have hLm : L'.length = 1 := by omega
                obtain ⟨w1, rfl⟩ : ∃ w1, L' = [w1] := by
                  match L', hLm with
                  | [a], _ => exact ⟨a, rfl⟩
                have i1 : aidx (.int .i64 1) (1 + 1) = some 1 := aidx_of (i := 1) (by omega)
                have gl1 : ((l0 :: [w1]).map sv)[1]? = some (.string (bs w1)) := rfl
                have hr3 : ∀ e', RightE e' → s = lineB e' → FE (10 : Int) (l0 :: [w1]) = e' := fun e' h1 h2 => (hr2 e' h1 h2).2.1
                have p1 : aput (rv (zE 10)) 1 [.int .i64 (numB w1)] = rv (FE (10 : Int) (l0 :: [w1])) := rfl
                simp [hPe, hPn, hPx, rg0, rq0, kz, kf, apart, hl5, hmc, hmi, hPs, i1, gl1, p1, -Int.natCast_add]
                refine (number_ok w1 _).mono ?_
                rintro _ h9 ⟨rfl, e'⟩
                rw [e']; clear e' h9
                simp [hPe, hPn, hPx, rg0, rq0, kz, kf, apart, hl5, hmc, hmi, hPs, i1, gl1, p1, -Int.natCast_add]
                refine (refRt_ok (FE (10 : Int) (l0 :: [w1])) _).mono ?_
                rintro _ h9 ⟨⟨b, rfl, hbR⟩, e'⟩
                rw [e']; clear e' h9
                cases b with
                | false =>
                  simp [hPe, hPn, hPx, hP0, rg0, rq0, rg3, rq3, kz, kf, apart, aun, bs_lit, zz, zz4, mc_rv, hl5, hpe, cellsOf_set, acut_rv, -Int.natCast_add]
                  exact ⟨nog _ rfl fun e he hq => (by have := hbR.2 ((right_iff _).1 (by rw [(hr3 e he hq)]; exact he)).1; cases this), e3 _ (hPx' _) _⟩
                | true =>
                  have hRR := hbR.1 rfl
                  by_cases qm : (FE (10 : Int) (l0 :: [w1])).m < 0
                  · simp [qm, hPe, hPn, hPx, hP0, rg0, rq0, rg3, rq3, kz, kf, apart, aun, bs_lit, zz, zz4, mc_rv, hl5, hpe, cellsOf_set, acut_rv, -Int.natCast_add]
                    exact ⟨nog _ rfl fun e he hq => (by have := he.m; rw [← (hr3 e he hq)] at this; omega), e3 _ (hPx' _) _⟩
                  · by_cases qm2 : 255 < (FE (10 : Int) (l0 :: [w1])).m
                    · simp [qm, qm2, hPe, hPn, hPx, hP0, rg0, rq0, rg3, rq3, kz, kf, apart, aun, bs_lit, zz, zz4, mc_rv, hl5, hpe, cellsOf_set, acut_rv, -Int.natCast_add]
                      exact ⟨nog _ rfl fun e he hq => (by have := he.m; rw [← (hr3 e he hq)] at this; omega), e3 _ (hPx' _) _⟩
                    · simp [qm, qm2, hPe, hPn, hPx, hP0, rg0, rq0, rg3, rq3, kz, kf, apart, aun, bs_lit, zz, zz4, mc_rv, hl5, hpe, cellsOf_set, acut_rv, -Int.natCast_add]
                      refine (rPrint_ok (FE (10 : Int) (l0 :: [w1])) hRR (by omega) _).mono ?_
                      rintro _ h9 ⟨rfl, e'⟩
                      rw [e']; clear e' h9
                      have hsl : sv (lineB (FE (10 : Int) (l0 :: [w1]))) = .string (bs (lineB (FE (10 : Int) (l0 :: [w1])))) := rfl
                      by_cases hls : lineB (FE (10 : Int) (l0 :: [w1])) = s
                      · have hsl' : sv (lineB (FE (10 : Int) (l0 :: [w1]))) = .string (bs s) := by rw [hsl, hls]
                        simp [hsl', hPe, hPn, hPx, hP0, rg0, rq0, rg3, rq3, kz, kf, apart, aun, bs_lit, zz, zz4, mc_rv, hl5, hpe, cellsOf_set, acut_rv, -Int.natCast_add]
                        exact ⟨⟨fun e h1 h2 => (by rw [(hr3 e h1 h2)]), fun hn => absurd hls.symm (hn _ ((right_iff _).2 ⟨hRR, by omega⟩))⟩, e3 _ (hPx' _) _⟩
                      · have hne : ¬ bs (lineB (FE (10 : Int) (l0 :: [w1]))) = bs s := fun q => hls (bs_inj.1 q)
                        simp [hsl, hne, hPe, hPn, hPx, hP0, rg0, rq0, rg3, rq3, kz, kf, apart, aun, bs_lit, zz, zz4, mc_rv, hl5, hpe, cellsOf_set, acut_rv, -Int.natCast_add]
                        exact ⟨nog _ rfl fun e he hq => hls (by rw [(hr3 e he hq)]; exact hq.symm), e3 _ (hPx' _) _⟩
              · by_cases k11 : κ = 11
                · subst k11
                  have hLm : L'.length = 1 := by omega
                  obtain ⟨w1, rfl⟩ : ∃ w1, L' = [w1] := by
                    match L', hLm with
                    | [a], _ => exact ⟨a, rfl⟩
                  have i1 : aidx (.int .i64 1) (1 + 1) = some 1 := aidx_of (i := 1) (by omega)
                  have gl1 : ((l0 :: [w1]).map sv)[1]? = some (.string (bs w1)) := rfl
                  have hr3 : ∀ e', RightE e' → s = lineB e' → FE (11 : Int) (l0 :: [w1]) = e' := fun e' h1 h2 => (hr2 e' h1 h2).2.1
                  have p1 : aput (rv (zE 11)) 1 [.int .i64 (numB w1)] = rv (FE (11 : Int) (l0 :: [w1])) := rfl
                  simp [hPe, hPn, hPx, rg0, rq0, kz, kf, apart, hl5, hmc, hmi, hPs, i1, gl1, p1, -Int.natCast_add]
                  refine (number_ok w1 _).mono ?_
                  rintro _ h9 ⟨rfl, e'⟩
                  rw [e']; clear e' h9
                  simp [hPe, hPn, hPx, rg0, rq0, kz, kf, apart, hl5, hmc, hmi, hPs, i1, gl1, p1, -Int.natCast_add]
                  refine (refRt_ok (FE (11 : Int) (l0 :: [w1])) _).mono ?_
                  rintro _ h9 ⟨⟨b, rfl, hbR⟩, e'⟩
                  rw [e']; clear e' h9
                  cases b with
                  | false =>
                    simp [hPe, hPn, hPx, hP0, rg0, rq0, rg3, rq3, kz, kf, apart, aun, bs_lit, zz, zz4, mc_rv, hl5, hpe, cellsOf_set, acut_rv, -Int.natCast_add]
                    exact ⟨nog _ rfl fun e he hq => (by have := hbR.2 ((right_iff _).1 (by rw [(hr3 e he hq)]; exact he)).1; cases this), e3 _ (hPx' _) _⟩
                  | true =>
                    have hRR := hbR.1 rfl
                    by_cases qm : (FE (11 : Int) (l0 :: [w1])).m < 0
                    · simp [qm, hPe, hPn, hPx, hP0, rg0, rq0, rg3, rq3, kz, kf, apart, aun, bs_lit, zz, zz4, mc_rv, hl5, hpe, cellsOf_set, acut_rv, -Int.natCast_add]
                      exact ⟨nog _ rfl fun e he hq => (by have := he.m; rw [← (hr3 e he hq)] at this; omega), e3 _ (hPx' _) _⟩
                    · by_cases qm2 : 255 < (FE (11 : Int) (l0 :: [w1])).m
                      · simp [qm, qm2, hPe, hPn, hPx, hP0, rg0, rq0, rg3, rq3, kz, kf, apart, aun, bs_lit, zz, zz4, mc_rv, hl5, hpe, cellsOf_set, acut_rv, -Int.natCast_add]
                        exact ⟨nog _ rfl fun e he hq => (by have := he.m; rw [← (hr3 e he hq)] at this; omega), e3 _ (hPx' _) _⟩
                      · simp [qm, qm2, hPe, hPn, hPx, hP0, rg0, rq0, rg3, rq3, kz, kf, apart, aun, bs_lit, zz, zz4, mc_rv, hl5, hpe, cellsOf_set, acut_rv, -Int.natCast_add]
                        refine (rPrint_ok (FE (11 : Int) (l0 :: [w1])) hRR (by omega) _).mono ?_
                        rintro _ h9 ⟨rfl, e'⟩
                        rw [e']; clear e' h9
                        have hsl : sv (lineB (FE (11 : Int) (l0 :: [w1]))) = .string (bs (lineB (FE (11 : Int) (l0 :: [w1])))) := rfl
                        by_cases hls : lineB (FE (11 : Int) (l0 :: [w1])) = s
                        · have hsl' : sv (lineB (FE (11 : Int) (l0 :: [w1]))) = .string (bs s) := by rw [hsl, hls]
                          simp [hsl', hPe, hPn, hPx, hP0, rg0, rq0, rg3, rq3, kz, kf, apart, aun, bs_lit, zz, zz4, mc_rv, hl5, hpe, cellsOf_set, acut_rv, -Int.natCast_add]
                          exact ⟨⟨fun e h1 h2 => (by rw [(hr3 e h1 h2)]), fun hn => absurd hls.symm (hn _ ((right_iff _).2 ⟨hRR, by omega⟩))⟩, e3 _ (hPx' _) _⟩
                        · have hne : ¬ bs (lineB (FE (11 : Int) (l0 :: [w1]))) = bs s := fun q => hls (bs_inj.1 q)
                          simp [hsl, hne, hPe, hPn, hPx, hP0, rg0, rq0, rg3, rq3, kz, kf, apart, aun, bs_lit, zz, zz4, mc_rv, hl5, hpe, cellsOf_set, acut_rv, -Int.natCast_add]
                          exact ⟨nog _ rfl fun e he hq => hls (by rw [(hr3 e he hq)]; exact hq.symm), e3 _ (hPx' _) _⟩
                · have hL0 : L' = [] := List.length_eq_zero_iff.1 (by omega)
                  subst hL0
                  have hr3 : ∀ e', RightE e' → s = lineB e' → FE κ [l0] = e' := fun e' h1 h2 => (hr2 e' h1 h2).2.1
                  have hzf : zE (κ : Int) = FE κ [l0] := by unfold FE zE; rw [if_neg (by omega), if_neg (by omega), if_neg (by omega), if_neg (by omega), if_neg (by omega)]
                  have j3 : ¬ (κ : Int) = 3 := by omega
                  have j13 : ¬ (κ : Int) = 13 := by omega
                  have j15 : ¬ (κ : Int) = 15 := by omega
                  simp [hzf, hPe, hPn, hPx, rg0, rq0, kz, kf, apart, hl5, hmc, hmi, hPs, k3, k13, k15, j3, j13, j15, -Int.natCast_add]
                  refine (refRt_ok (FE κ [l0]) _).mono ?_
                  rintro _ h9 ⟨⟨b, rfl, hbR⟩, e'⟩
                  rw [e']; clear e' h9
                  cases b with
                  | false =>
                    simp [hPe, hPn, hPx, hP0, rg0, rq0, rg3, rq3, kz, kf, apart, aun, bs_lit, zz, zz4, mc_rv, hl5, hpe, cellsOf_set, acut_rv, -Int.natCast_add]
                    exact ⟨nog _ rfl fun e he hq => (by have := hbR.2 ((right_iff _).1 (by rw [(hr3 e he hq)]; exact he)).1; cases this), e3 _ (hPx' _) _⟩
                  | true =>
                    have hRR := hbR.1 rfl
                    by_cases qm : (FE κ [l0]).m < 0
                    · simp [qm, hPe, hPn, hPx, hP0, rg0, rq0, rg3, rq3, kz, kf, apart, aun, bs_lit, zz, zz4, mc_rv, hl5, hpe, cellsOf_set, acut_rv, -Int.natCast_add]
                      exact ⟨nog _ rfl fun e he hq => (by have := he.m; rw [← (hr3 e he hq)] at this; omega), e3 _ (hPx' _) _⟩
                    · by_cases qm2 : 255 < (FE κ [l0]).m
                      · simp [qm, qm2, hPe, hPn, hPx, hP0, rg0, rq0, rg3, rq3, kz, kf, apart, aun, bs_lit, zz, zz4, mc_rv, hl5, hpe, cellsOf_set, acut_rv, -Int.natCast_add]
                        exact ⟨nog _ rfl fun e he hq => (by have := he.m; rw [← (hr3 e he hq)] at this; omega), e3 _ (hPx' _) _⟩
                      · simp [qm, qm2, hPe, hPn, hPx, hP0, rg0, rq0, rg3, rq3, kz, kf, apart, aun, bs_lit, zz, zz4, mc_rv, hl5, hpe, cellsOf_set, acut_rv, -Int.natCast_add]
                        refine (rPrint_ok (FE κ [l0]) hRR (by omega) _).mono ?_
                        rintro _ h9 ⟨rfl, e'⟩
                        rw [e']; clear e' h9
                        have hsl : sv (lineB (FE κ [l0])) = .string (bs (lineB (FE κ [l0]))) := rfl
                        by_cases hls : lineB (FE κ [l0]) = s
                        · have hsl' : sv (lineB (FE κ [l0])) = .string (bs s) := by rw [hsl, hls]
                          simp [hsl', hPe, hPn, hPx, hP0, rg0, rq0, rg3, rq3, kz, kf, apart, aun, bs_lit, zz, zz4, mc_rv, hl5, hpe, cellsOf_set, acut_rv, -Int.natCast_add]
                          exact ⟨⟨fun e h1 h2 => (by rw [(hr3 e h1 h2)]), fun hn => absurd hls.symm (hn _ ((right_iff _).2 ⟨hRR, by omega⟩))⟩, e3 _ (hPx' _) _⟩
                        · have hne : ¬ bs (lineB (FE κ [l0])) = bs s := fun q => hls (bs_inj.1 q)
                          simp [hsl, hne, hPe, hPn, hPx, hP0, rg0, rq0, rg3, rq3, kz, kf, apart, aun, bs_lit, zz, zz4, mc_rv, hl5, hpe, cellsOf_set, acut_rv, -Int.natCast_add]
                          exact ⟨nog _ rfl fun e he hq => hls (by rw [(hr3 e he hq)]; exact hq.symm), e3 _ (hPx' _) _⟩
      · have hlen' : ¬ ((L'.length + 1 : Nat) : Int) = (((ltB κ).length + 1 : Nat) : Int) := by omega
        simp [hPe, hPn, hP0, rg0, rq0, kz, kf, apart, hκ0, hκ0', aidx_of hκ2, hneed, hlen', bs_lit, zz, zz4, mc_rv, hl5, hpe, cellsOf_set, acut_rv, -Int.natCast_add]
        exact ⟨nog _ rfl fun e he hq => hlen (hr2 e he hq).2.2, e3 _ (hPx' _) _⟩
def c29 : AC := .seq (.ops [⟨ some 1, none, .box (.tmp 0) ⟩, ⟨ some 2, none, .alloc [.int .i64 0, .int .i64 0, .int .i64 0, .int .i64 0, .string ⟨ ⟨[] ⟩ ⟩] ⟩]) (.seq (.ops [⟨ some 3, none, .fAddr 0 (.tmp 1) ⟩, ⟨ some 4, none, .load none (.tmp 3) ⟩, ⟨ some 5, none, .fAddr 1 (.tmp 1) ⟩, ⟨ some 6, none, .load none (.tmp 5) ⟩, ⟨ some 7, none, .fAddr 3 (.tmp 1) ⟩, ⟨ some 8, none, .fAddr 0 (.tmp 7) ⟩, ⟨ some 9, none, .load none (.tmp 8) ⟩, ⟨ some 10, none, .fAddr 3 (.tmp 1) ⟩, ⟨ some 11, none, .fAddr 1 (.tmp 10) ⟩, ⟨ some 12, none, .load none (.tmp 11) ⟩, ⟨ some 13, none, .toInt .i64 (.tmp 12) ⟩, ⟨ some 14, none, .fAddr 2 (.tmp 1) ⟩, ⟨ some 15, none, .load none (.tmp 14) ⟩, ⟨ some 16, none, .build [.int .i64 0, .int .i64 0, .int .i64 0, .int .i64 0, .string ⟨ ⟨[] ⟩ ⟩] [(0, 1, .tmp 4), (1, 1, .tmp 6), (2, 1, .tmp 9), (3, 1, .tmp 13), (4, 1, .tmp 15)] ⟩, ⟨ none, none, .store 5 (.tmp 2) (.tmp 16) ⟩]) .ret)
theorem k29 : compR Tryd.prog Tryd.f29 = some (c29, [.c 2 (some 5)]) := by kernel_rfl
theorem n29 : Tryd.f29.ntmps = 17 := by kernel_rfl
def c27 : AC := .seq (.ops [⟨ some 0, none, .mv (.const (.bool false)) ⟩]) (.seq (.ops [⟨ some 4, none, .build [.int .i64 0, .int .i64 0, .string ⟨ ⟨[] ⟩ ⟩, .int .i64 0, .int .u8 0] [(0, 1, .const (.int .i64 3)), (2, 1, .const (.string ⟨ ⟨[97, 98] ⟩ ⟩))] ⟩, ⟨ some 1, none, .alloc [.int .i64 0, .int .i64 0, .string ⟨ ⟨[] ⟩ ⟩, .int .i64 0, .int .u8 0] ⟩, ⟨ none, none, .store 5 (.tmp 1) (.tmp 4) ⟩]) (.seq (.ops [⟨ some 6, none, .call 32 [.const (.string ⟨ ⟨[87, 82, 73, 84, 69, 32, 61, 54, 49, 54, 50] ⟩ ⟩)] ⟩, ⟨ some 5, none, .mv (.tmp 6) ⟩, ⟨ some 7, none, .extr (.tmp 5) 0 ⟩, ⟨ some 8, none, .extr (.tmp 5) 1 ⟩, ⟨ some 2, none, .alloc [.int .i64 0, .int .i64 0, .string ⟨ ⟨[] ⟩ ⟩, .int .i64 0, .int .u8 0] ⟩, ⟨ none, none, .store 5 (.tmp 2) (.tmp 7) ⟩, ⟨ some 3, none, .mv (.tmp 8) ⟩]) (.seq (.ops [⟨ some 9, none, .load (some 5) (.tmp 1) ⟩, ⟨ some 10, none, .call 30 [.tmp 9] ⟩, ⟨ some 11, none, .bin .eql (.tmp 10) (.const (.string ⟨ ⟨[87, 82, 73, 84, 69, 32, 61, 54, 49, 54, 50] ⟩ ⟩)) ⟩, ⟨ some 12, none, .mv (.tmp 11) ⟩, ⟨ some 13, some (12, true), .mv (.tmp 3) ⟩, ⟨ some 14, some (12, true), .bin .eql (.tmp 13) (.const (.int .i64 0)) ⟩, ⟨ some 15, none, .pick (.tmp 12) (.tmp 14) (.const (.bool false)) ⟩, ⟨ some 16, none, .mv (.tmp 15) ⟩, ⟨ some 17, some (16, true), .load (some 5) (.tmp 2) ⟩, ⟨ some 18, some (16, true), .load (some 5) (.tmp 1) ⟩, ⟨ some 19, some (16, true), .eqa false [.i, .i, .s, .i, .i] (.tmp 17) (.tmp 18) ⟩, ⟨ some 20, none, .pick (.tmp 16) (.tmp 19) (.const (.bool false)) ⟩, ⟨ some 0, none, .mv (.tmp 20) ⟩]) .ret)))
theorem k27 : compF Tryd.prog Tryd.f27 = some (c27, [0]) := by kernel_rfl
theorem n27 : Tryd.f27.ntmps = 21 := by kernel_rfl
def c6 : AC := .seq (.ops [⟨ some 1, none, .box (.tmp 0) ⟩, ⟨ some 2, none, .mv (.const (.bool false)) ⟩]) (.seq (.seq (.ops [⟨ some 7, none, .call 27 [] ⟩, ⟨ some 8, none, .un .not (.tmp 7) ⟩]) (.cond (.tmp 8) (.seq (.ops [⟨ some 2, none, .mv (.const (.bool false)) ⟩]) .ret) .skip)) (.seq (.seq (.ops [⟨ some 9, none, .fAddr 2 (.tmp 1) ⟩, ⟨ some 10, none, .load none (.tmp 9) ⟩, ⟨ some 11, none, .lenS true (.tmp 10) ⟩, ⟨ some 12, none, .bin .gtr (.tmp 11) (.const (.int .i64 2000)) ⟩]) (.cond (.tmp 12) (.seq (.ops [⟨ some 2, none, .mv (.const (.bool true)) ⟩]) .ret) .skip)) (.seq (.ops [⟨ some 13, none, .load (some 5) (.tmp 1) ⟩, ⟨ some 14, none, .call 29 [.tmp 13] ⟩, ⟨ some 15, none, .call 28 [.tmp 14] ⟩, ⟨ some 3, none, .mv (.tmp 15) ⟩]) (.seq (.ops [⟨ some 16, none, .load (some 5) (.tmp 1) ⟩, ⟨ some 17, none, .call 30 [.tmp 16] ⟩, ⟨ some 4, none, .mv (.tmp 17) ⟩]) (.seq (.seq (.ops [⟨ some 18, none, .load (some 5) (.tmp 1) ⟩, ⟨ some 19, none, .call 31 [.tmp 18] ⟩, ⟨ some 20, none, .mv (.tmp 3) ⟩, ⟨ some 21, none, .eqv true .bool (.tmp 19) (.tmp 20) ⟩]) (.cond (.tmp 21) (.seq (.ops [⟨ some 2, none, .mv (.const (.bool false)) ⟩]) .ret) .skip)) (.seq (.seq (.ops [⟨ some 22, none, .mv (.tmp 3) ⟩, ⟨ some 23, none, .un .not (.tmp 22) ⟩]) (.cond (.tmp 23) (.seq (.ops [⟨ some 24, none, .mv (.tmp 4) ⟩, ⟨ some 25, none, .bin .eql (.tmp 24) (.const (.string ⟨ ⟨[] ⟩ ⟩)) ⟩, ⟨ some 2, none, .mv (.tmp 25) ⟩]) .ret) .skip)) (.seq (.ops [⟨ some 27, none, .mv (.tmp 4) ⟩, ⟨ some 28, none, .call 32 [.tmp 27] ⟩, ⟨ some 26, none, .mv (.tmp 28) ⟩, ⟨ some 29, none, .extr (.tmp 26) 0 ⟩, ⟨ some 30, none, .extr (.tmp 26) 1 ⟩, ⟨ some 5, none, .alloc [.int .i64 0, .int .i64 0, .string ⟨ ⟨[] ⟩ ⟩, .int .i64 0, .int .u8 0] ⟩, ⟨ none, none, .store 5 (.tmp 5) (.tmp 29) ⟩, ⟨ some 6, none, .mv (.tmp 30) ⟩]) (.seq (.ops [⟨ some 31, none, .mv (.tmp 4) ⟩, ⟨ some 32, none, .load (some 5) (.tmp 1) ⟩, ⟨ some 33, none, .call 29 [.tmp 32] ⟩, ⟨ some 34, none, .call 33 [.tmp 33] ⟩, ⟨ some 35, none, .bin .eql (.tmp 31) (.tmp 34) ⟩, ⟨ some 36, none, .mv (.tmp 35) ⟩, ⟨ some 37, some (36, true), .mv (.tmp 6) ⟩, ⟨ some 38, some (36, true), .bin .eql (.tmp 37) (.const (.int .i64 0)) ⟩, ⟨ some 39, none, .pick (.tmp 36) (.tmp 38) (.const (.bool false)) ⟩, ⟨ some 40, none, .mv (.tmp 39) ⟩, ⟨ some 41, some (40, true), .load (some 5) (.tmp 5) ⟩, ⟨ some 42, some (40, true), .load (some 5) (.tmp 1) ⟩, ⟨ some 43, some (40, true), .eqa false [.i, .i, .s, .i, .i] (.tmp 41) (.tmp 42) ⟩, ⟨ some 44, none, .pick (.tmp 40) (.tmp 43) (.const (.bool false)) ⟩, ⟨ some 2, none, .mv (.tmp 44) ⟩]) .ret))))))))
theorem k6 : compF Tryd.prog Tryd.f6 = some (c6, [2]) := by kernel_rfl
theorem n6 : Tryd.f6.ntmps = 45 := by kernel_rfl
def c7 : AC := .seq (.ops [⟨ some 2, none, .mv (.const (.bool false)) ⟩]) (.seq (.seq (.ops [⟨ some 7, none, .call 27 [] ⟩, ⟨ some 8, none, .un .not (.tmp 7) ⟩]) (.cond (.tmp 8) (.seq (.ops [⟨ some 2, none, .mv (.const (.bool false)) ⟩]) .ret) .skip)) (.seq (.seq (.ops [⟨ some 9, none, .mv (.tmp 0) ⟩, ⟨ some 10, none, .lenS true (.tmp 9) ⟩, ⟨ some 11, none, .bin .gtr (.tmp 10) (.const (.int .i64 2000)) ⟩]) (.cond (.tmp 11) (.seq (.ops [⟨ some 2, none, .mv (.const (.bool true)) ⟩]) .ret) .skip)) (.seq (.ops [⟨ some 13, none, .mv (.tmp 0) ⟩, ⟨ some 14, none, .call 32 [.tmp 13] ⟩, ⟨ some 12, none, .mv (.tmp 14) ⟩, ⟨ some 15, none, .extr (.tmp 12) 0 ⟩, ⟨ some 16, none, .extr (.tmp 12) 1 ⟩, ⟨ some 3, none, .alloc [.int .i64 0, .int .i64 0, .string ⟨ ⟨[] ⟩ ⟩, .int .i64 0, .int .u8 0] ⟩, ⟨ none, none, .store 5 (.tmp 3) (.tmp 15) ⟩, ⟨ some 4, none, .mv (.tmp 16) ⟩]) (.seq (.ops [⟨ some 18, none, .mv (.tmp 0) ⟩, ⟨ some 19, none, .call 34 [.tmp 18] ⟩, ⟨ some 17, none, .mv (.tmp 19) ⟩, ⟨ some 20, none, .extr (.tmp 17) 0 ⟩, ⟨ some 21, none, .extr (.tmp 17) 1 ⟩, ⟨ some 5, none, .alloc [.int .i64 0, .int .i64 0, .int .i64 0, .int .i64 0, .string ⟨ ⟨[] ⟩ ⟩] ⟩, ⟨ none, none, .store 5 (.tmp 5) (.tmp 20) ⟩, ⟨ some 6, none, .mv (.tmp 21) ⟩]) (.seq (.draw [([⟨ some 22, none, .load (some 5) (.tmp 3) ⟩, ⟨ some 24, none, .load (some 5) (.tmp 5) ⟩], [⟨ some 23, none, .call 29 [.tmp 22] ⟩], [⟨ some 24, none, .load (some 5) (.tmp 5) ⟩]), ([⟨ some 25, none, .eqa false [.i, .i, .i, .i, .s] (.tmp 23) (.tmp 24) ⟩, ⟨ some 26, none, .mv (.tmp 25) ⟩, ⟨ some 27, some (26, true), .mv (.tmp 4) ⟩, ⟨ some 28, some (26, true), .bin .eql (.tmp 27) (.const (.int .i64 0)) ⟩, ⟨ some 29, some (26, true), .mv (.tmp 6) ⟩, ⟨ some 30, some (26, true), .eqv false .bool (.tmp 28) (.tmp 29) ⟩, ⟨ some 31, none, .pick (.tmp 26) (.tmp 30) (.const (.bool false)) ⟩, ⟨ some 32, none, .mv (.tmp 31) ⟩, ⟨ some 33, some (32, true), .mv (.tmp 6) ⟩, ⟨ some 34, some (32, true), .mv (.tmp 33) ⟩, ⟨ some 35, some (34, false), .mv (.tmp 4) ⟩, ⟨ some 36, some (34, false), .bin .eql (.tmp 35) (.const (.int .i64 6)) ⟩, ⟨ some 37, some (32, true), .pick (.tmp 34) (.const (.bool true)) (.tmp 36) ⟩, ⟨ some 38, none, .pick (.tmp 32) (.tmp 37) (.const (.bool false)) ⟩, ⟨ some 2, none, .mv (.tmp 38) ⟩], [], [])]) .ret)))))
theorem k7 : compF Tryd.prog Tryd.f7 = some (c7, [2]) := by kernel_rfl
theorem n7 : Tryd.f7.ntmps = 39 := by kernel_rfl
/-! the statements of the lines -/
theorem plain_ok (e : Ev) (hm : 0 ≤ e.m ∧ e.m < 256) (h : Heap) : ACalls Tryd.prog 29 [.agg (ev e).toArray] h fun v h' => v = .agg (rv e).toArray ∧ h' = h := by
  refine ACalls.same (rv_agg _ _) (acalls_ofR mix Tryd.func29 k29 n29 (by simp) fun hcl hb => ?_)
  have zz : ([.int .i64 0, .int .i64 0, .int .i64 0, .int .i64 0, .string (bs [])] : List Value) = rv (zE 0) := rfl
  have f0 : ((h.push (.cells (ev e) .ex 1)).push (.cells (rv (zE 0)) .ex 1)).cellsOf h.n = some (ev e, .ex, 1) := by rw [cellsOf_ne (by show ¬ h.n = h.n + 1; omega)]; exact cellsOf_new _ _ _ _
  have f1 : ((h.push (.cells (ev e) .ex 1)).push (.cells (rv (zE 0)) .ex 1)).cellsOf (h.n + 1) = some (rv (zE 0), .ex, 1) := cellsOf_new (h.push (.cells (ev e) .ex 1)) _ _ _
  have hs : ∀ o, ((h.push (.cells (ev e) .ex 1)).push (.cells (rv (zE 0)) .ex 1)).set (h.n + 1) o = (h.push (.cells (ev e) .ex 1)).push o := fun o => set_push (h.push (.cells (ev e) .ex 1)) _ _
  have f2 : ((h.push (.cells (ev e) .ex 1)).push (.cells (rv e) .ex 1)).cellsOf (h.n + 1) = some (rv e, .ex, 1) := cellsOf_new (h.push (.cells (ev e) .ex 1)) _ _ _
  have e0 := ((Heap.Ext.refl h).push hcl (.cells (ev e) .ex 1)).push hcl (.cells (rv e) .ex 1)
  have g0 : (ev e)[0]? = some (.int .i64 e.k) := rfl
  have g1 : (ev e)[1]? = some (.int .i64 e.a) := rfl
  have g2 : (ev e)[2]? = some (.string (bs e.s)) := rfl
  have g3 : (ev e)[3]? = some (.int .i64 e.b) := rfl
  have g4 : (ev e)[4]? = some (.int .u8 e.m) := rfl
  have hl5 : ∀ e, (rv e).length = 5 := fun _ => rfl
  have hpe : aput (rv (zE 0)) 0 (rv e) = rv e := rfl
  have w : IntKind.i64.wrap e.m = e.m := IntWalk.i64_in _ (by omega)
  have fil : afill (rv (zE 0)) [(0, 1, .int .i64 e.k), (1, 1, .int .i64 e.a), (2, 1, .int .i64 e.b), (3, 1, .int .i64 e.m), (4, 1, .string (bs e.s))] = some (rv e) := rfl
  simp [c29, bs_lit, zz, mc_ev, mc_rv, f0, f1, f2, hs, g0, g1, g2, g3, g4, apart, w, fil, hl5, hpe, acut_rv]
  exact e0
def eA : Ev := ⟨3, 0, [97, 98], 0, 0⟩
theorem eA_right : RightE eA := (right_iff eA).2 ⟨⟨by decide, by decide, by decide, by decide, fun _ _ _ _ => rfl, fun _ => ⟨rfl, rfl⟩, fun q => absurd rfl q⟩, by decide⟩
theorem eA_line : lineB eA = [87, 82, 73, 84, 69, 32, 61, 54, 49, 54, 50] := by decide
theorem awake28_ok (h : Heap) : ACalls Tryd.prog 27 [] h fun v h' => v = .bool true ∧ h' = h := by
  refine ACalls.same .bool (acalls_of mix Tryd.func27 k27 n27 (by simp) fun hcl hb => ?_)
  have zz : ([.int .i64 0, .int .i64 0, .string (bs []), .int .i64 0, .int .u8 0] : List Value) = ev (zE 0) := rfl
  have hl5 : ∀ e, (ev e).length = 5 := fun _ => rfl
  have hpe : ∀ e e2, aput (ev e) 0 (ev e2) = ev e2 := fun _ _ => rfl
  have fil : afill (ev (zE 0)) [(0, 1, .int .i64 3), (2, 1, .string (bs [97, 98]))] = some (ev eA) := rfl
  have f0 := cellsOf_new h (ev eA) .ex 1
  have n0 : (h.push (.cells (ev eA) .ex 1)).n = h.n + 1 := rfl
  have e0 := (Heap.Ext.refl h).push hcl (.cells (ev eA) .ex 1)
  simp [c27, bs_lit, zz, fil, cellsOf_new, mc_ev, hl5, hpe, set_push]
  generalize h.push (.cells (ev eA) .ex 1) = H0 at *
  refine (lParse_ok [87, 82, 73, 84, 69, 32, 61, 54, 49, 54, 50] (by simp) H0).mono ?_
  rintro _ h9 ⟨hp, e'⟩
  rw [e']; clear e' h9
  rw [hp.1 eA eA_right eA_line.symm]
  have f2 : (H0.push (.cells (ev eA) .ex 1)).cellsOf h.n = some (ev eA, .ex, 1) := by rw [cellsOf_ne (by omega)]; exact f0
  have f3 := cellsOf_new H0 (ev eA) .ex 1
  simp [bs_lit, zz, cellsOf_new, mc_ev, hl5, hpe, set_push, f2, f3, apart, acut_ev]
  refine (lPrint_ok eA (right_ok' eA_right) _).mono ?_
  rintro _ h9 ⟨hp2, e'⟩
  rw [e']; clear e' h9
  rw [hp2.1 eA_right, eA_line]
  have hsv : sv [87, 82, 73, 84, 69, 32, 61, 54, 49, 54, 50] = .string (bs [87, 82, 73, 84, 69, 32, 61, 54, 49, 54, 50]) := rfl
  simp [hsv, bs_lit, f2, f3, apart, acut_ev, ev_eq]
  exact e0.push hcl _
theorem linesPrint_law (e : Ev) (he : (-9223372036854775808 ≤ e.k ∧ e.k < 9223372036854775808) ∧ (-9223372036854775808 ≤ e.a ∧ e.a < 9223372036854775808) ∧ (-9223372036854775808 ≤ e.b ∧ e.b < 9223372036854775808) ∧ (0 ≤ e.m ∧ e.m < 256)) (h : Heap) :
    ACalls Tryd.prog 6 [.agg (ev e).toArray] h fun v h' => v = .bool true ∧ h' = h := by
  refine ACalls.same .bool (acalls_of mix Tryd.func6 k6 n6 (by simp) fun hcl hb => ?_)
  obtain ⟨hek, hea, heb, hem⟩ := he
  have zz : ([.int .i64 0, .int .i64 0, .string (bs []), .int .i64 0, .int .u8 0] : List Value) = ev (zE 0) := rfl
  have hl5 : ∀ e, (ev e).length = 5 := fun _ => rfl
  have hpe : ∀ e e2, aput (ev e) 0 (ev e2) = ev e2 := fun _ _ => rfl
  have g2 : (ev e)[2]? = some (.string (bs e.s)) := rfl
  have f0 := cellsOf_new h (ev e) .ex 1
  have n0 : (h.push (.cells (ev e) .ex 1)).n = h.n + 1 := rfl
  have e0 := (Heap.Ext.refl h).push hcl (.cells (ev e) .ex 1)
  simp [c6, mc_ev]
  generalize h.push (.cells (ev e) .ex 1) = H0 at *
  refine (awake28_ok H0).mono ?_
  rintro _ h9 ⟨rfl, e'⟩
  rw [e']; clear e' h9
  by_cases hs : 2000 < e.s.length
  · have hs' : (2000 : Int) < (e.s.length : Int) := by omega
    simp [aun, f0, g2, apart, bs_size, hs, hs']
    exact e0
  · have hs' : ¬ (2000 : Int) < (e.s.length : Int) := by omega
    have hok : e.Ok := ⟨hek, hea, heb, hem, by omega⟩
    simp [aun, f0, g2, apart, bs_size, hs, hs', acut_ev]
    refine (plain_ok e hem H0).mono ?_
    rintro _ h9 ⟨rfl, e'⟩
    rw [e']; clear e' h9
    simp
    refine (refRt_ok e H0).mono ?_
    rintro _ h9 ⟨⟨b, rfl, hb1⟩, e'⟩
    rw [e']; clear e' h9
    have hbR : b = true ↔ RightE e := by rw [hb1, right_iff]; exact ⟨fun q => ⟨q, hem⟩, fun q => q.1⟩
    simp [f0, apart, acut_ev]
    refine (lPrint_ok e hok H0).mono ?_
    rintro _ h9 ⟨hp, e'⟩
    rw [e']; clear e' h9
    simp [f0, apart, acut_ev]
    refine (lRight_ok e hok H0).mono ?_
    rintro _ h9 ⟨⟨b2, rfl, hb2⟩, e'⟩
    rw [e']; clear e' h9
    have hbb : b2 = b := by
      cases b <;> cases b2 <;> simp_all
    subst hbb
    cases b2 with
    | false =>
      rw [hp.2 fun q => by have := hbR.2 q; cases this]
      have hsv : sv [] = .string (bs []) := rfl
      simp [aeq, aun, hsv, bs_lit]
      exact e0
    | true =>
      have hR := hbR.1 rfl
      rw [hp.1 hR]
      have hsv : sv (lineB e) = .string (bs (lineB e)) := rfl
      simp [aeq, aun, hsv]
      refine (lParse_ok (lineB e) (by have := lineB_len hR.w; omega) H0).mono ?_
      rintro _ h9 ⟨hq, e'⟩
      rw [e']; clear e' h9
      rw [hq.1 e hR rfl]
      have f2 : (H0.push (.cells (ev e) .ex 1)).cellsOf h.n = some (ev e, .ex, 1) := by rw [cellsOf_ne (by omega)]; exact f0
      have f3 := cellsOf_new H0 (ev e) .ex 1
      simp [bs_lit, zz, cellsOf_new, mc_ev, hl5, hpe, set_push, f2, f3, apart, acut_ev]
      refine (plain_ok e hem _).mono ?_
      rintro _ h9 ⟨rfl, e'⟩
      rw [e']; clear e' h9
      simp
      refine (rPrint_ok e (hb1.1 rfl) hem _).mono ?_
      rintro _ h9 ⟨rfl, e'⟩
      rw [e']; clear e' h9
      simp [hsv, f2, f3, apart, acut_ev, ev_eq]
      exact e0.push hcl _
theorem rv_eq (x e : Ev) : aeqL [.i, .i, .i, .i, .s] (rv x) (rv e) = some (decide (x = e)) := by
  obtain ⟨a1, a2, a3, a4, a5⟩ := x
  obtain ⟨b1, b2, b3, b4, b5⟩ := e
  simp only [rv, sv, aeqL, aeqC, if_true, bs_eq_dec, Bool.and_true, Option.some.injEq]
  by_cases q1 : a1 = b1 <;> by_cases q2 : a2 = b2 <;> by_cases q3 : a3 = b3 <;> by_cases q4 : a4 = b4 <;> by_cases q5 : a5 = b5 <;> simp [q1, q2, q3, q4, q5]
theorem linesParse_law (s : List UInt8) (h : Heap) :
    ACalls Tryd.prog 7 [.string (bs s)] h fun v h' => v = .bool true ∧ h' = h := by
  refine ACalls.same .bool (acalls_of mix Tryd.func7 k7 n7 (by simp) fun hcl hb => ?_)
  have zz : ([.int .i64 0, .int .i64 0, .string (bs []), .int .i64 0, .int .u8 0] : List Value) = ev (zE 0) := rfl
  have zzr : ([.int .i64 0, .int .i64 0, .int .i64 0, .int .i64 0, .string (bs [])] : List Value) = rv (zE 0) := rfl
  have hl5 : ∀ e, (ev e).length = 5 := fun _ => rfl
  have hpe : ∀ e e2, aput (ev e) 0 (ev e2) = ev e2 := fun _ _ => rfl
  have hl6 : ∀ e, (rv e).length = 5 := fun _ => rfl
  have hpr : ∀ e e2, aput (rv e) 0 (rv e2) = rv e2 := fun _ _ => rfl
  simp [c7]
  refine (awake28_ok h).mono ?_
  rintro _ h9 ⟨rfl, e'⟩
  rw [e']; clear e' h9
  by_cases hs : 2000 < s.length
  · have hs' : (2000 : Int) < (s.length : Int) := by omega
    simp [aun, bs_size, hs, hs']
    exact Heap.Ext.refl h
  · have hs' : ¬ (2000 : Int) < (s.length : Int) := by omega
    simp [aun, bs_size, hs, hs']
    refine (lParse_ok s (by omega) h).mono ?_
    rintro v1 h9 ⟨hp, e'⟩
    rw [e']; clear e' h9
    by_cases hx : ∃ e, RightE e ∧ s = lineB e
    · obtain ⟨e, h1, h2⟩ := hx
      rw [hp.1 e h1 h2]
      have f3 := cellsOf_new h (ev e) .ex 1
      have f4 : ((h.push (.cells (ev e) .ex 1)).push (.cells (rv e) .ex 1)).cellsOf h.n = some (ev e, .ex, 1) := by rw [cellsOf_ne (by show ¬ h.n = h.n + 1; omega)]; exact f3
      have f5 : ((h.push (.cells (ev e) .ex 1)).push (.cells (rv e) .ex 1)).cellsOf (h.n + 1) = some (rv e, .ex, 1) := cellsOf_new (h.push (.cells (ev e) .ex 1)) _ _ _
      have f6 : ∀ o o', ((h.push (.cells (ev e) .ex 1)).push o').set (h.n + 1) o = (h.push (.cells (ev e) .ex 1)).push o := fun o o' => set_push (h.push (.cells (ev e) .ex 1)) _ _
      have f7 : ∀ c, ((h.push (.cells (ev e) .ex 1)).push (.cells c .ex 1)).cellsOf (h.n + 1) = some (c, .ex, 1) := fun c => cellsOf_new (h.push (.cells (ev e) .ex 1)) _ _ _
      simp [bs_lit, zz, cellsOf_new, mc_ev, hl5, hpe, set_push]
      refine (rParse_ok s (by omega) _).mono ?_
      rintro v2 h9 ⟨hr, e'⟩
      rw [e']; clear e' h9
      rw [hr.1 e h1 h2]
      simp [bs_lit, zzr, f7, mc_rv, hl6, hpr, f6, f4, f5, apart, acut_ev, acut_rv]
      refine (plain_ok e h1.m _).mono ?_
      rintro _ h9 ⟨rfl, e'⟩
      rw [e']; clear e' h9
      simp [f4, f5, apart, acut_ev, acut_rv, rv_eq, aeq]
      exact ((Heap.Ext.refl h).push hcl _).push hcl _
    · have hn : ∀ e, RightE e → s ≠ lineB e := fun e h1 h2 => hx ⟨e, h1, h2⟩
      rw [hp.2 hn]
      have f3 := cellsOf_new h (ev (zE 0)) .ex 1
      have f4 : ((h.push (.cells (ev (zE 0)) .ex 1)).push (.cells (rv (zE 0)) .ex 1)).cellsOf h.n = some (ev (zE 0), .ex, 1) := by rw [cellsOf_ne (by show ¬ h.n = h.n + 1; omega)]; exact f3
      have f5 : ((h.push (.cells (ev (zE 0)) .ex 1)).push (.cells (rv (zE 0)) .ex 1)).cellsOf (h.n + 1) = some (rv (zE 0), .ex, 1) := cellsOf_new (h.push (.cells (ev (zE 0)) .ex 1)) _ _ _
      have f6 : ∀ o o', ((h.push (.cells (ev (zE 0)) .ex 1)).push o').set (h.n + 1) o = (h.push (.cells (ev (zE 0)) .ex 1)).push o := fun o o' => set_push (h.push (.cells (ev (zE 0)) .ex 1)) _ _
      have f7 : ∀ c, ((h.push (.cells (ev (zE 0)) .ex 1)).push (.cells c .ex 1)).cellsOf (h.n + 1) = some (c, .ex, 1) := fun c => cellsOf_new (h.push (.cells (ev (zE 0)) .ex 1)) _ _ _
      simp [bs_lit, zz, cellsOf_new, mc_ev, hl5, hpe, set_push]
      refine (rParse_ok s (by omega) _).mono ?_
      rintro v2 h9 ⟨hr, e'⟩
      rw [e']; clear e' h9
      rw [hr.2 hn]
      simp [bs_lit, zzr, f7, mc_rv, hl6, hpr, f6, f4, f5, apart, acut_ev, acut_rv]
      refine (plain_ok (zE 0) ⟨Int.le_refl _, by show (0 : Int) < 256; omega⟩ _).mono ?_
      rintro _ h9 ⟨rfl, e'⟩
      rw [e']; clear e' h9
      simp [f4, f5, apart, acut_ev, acut_rv, rv_eq, aeq]
      exact ((Heap.Ext.refl h).push hcl _).push hcl _
/-! an event comes in -/
section
open Go.RowKit Go.ChangeShapes Go.WideShapes
variable {H : Type} {W : World} {enc : TypeId × Value → H}
theorem i64_rng {n : Int} (h : (Lit.int .i64 n).wf = true) : n < 9223372036854775808 ∧ -9223372036854775808 ≤ n := by
  simp [Lit.wf, IntKind.min, IntKind.max, IntKind.signed, IntKind.bits] at h
  omega
theorem ev_elem {sp : Nat → Bool} {hd : Bool} {bb : Nat} {fuel : Nat} {x : DataW H × List MemPlace} {cs : List Value} (h : DataW.trod enc Tryd.prog W bb sp hd fuel 54 cs = some x) :
    ∃ e : Ev, cs = ev e ∧ (-9223372036854775808 ≤ e.k ∧ e.k < 9223372036854775808) ∧ (-9223372036854775808 ≤ e.a ∧ e.a < 9223372036854775808) ∧ (-9223372036854775808 ≤ e.b ∧ e.b < 9223372036854775808) ∧ (0 ≤ e.m ∧ e.m < 256) := by
  obtain ⟨xs, m, _, _, hl0, hl, hx⟩ := DataW.trod_struct Tryd.underlying54 h
  have h5 : Tryd.prog.cellsOf 54 = 5 := by kernel_rfl
  have c3 : Tryd.prog.cellsOf 3 = 1 := by kernel_rfl
  have c5 : Tryd.prog.cellsOf 5 = 1 := by kernel_rfl
  have c9 : Tryd.prog.cellsOf 9 = 1 := by kernel_rfl
  have c72 : Tryd.prog.cellsOf 52 = 2 := by kernel_rfl
  rw [h5] at hl0
  have hl4 : xs.length = 4 := hl
  match cs, hl0 with
  | [a0, a1, a2, a3, a4], _ =>
    match xs, hl4 with
    | [x0, x1, x2, x3], _ =>
      have f0 : DataW.trod enc Tryd.prog W bb sp hd m 3 [a0] = some x0 := by
        have q : DataW.trod enc Tryd.prog W bb sp hd m 3 (([a0, a1, a2, a3, a4].drop 0).take (Tryd.prog.cellsOf 3)) = some x0 := hx 0 _ rfl
        rw [c3] at q
        exact q
      have f1 : DataW.trod enc Tryd.prog W bb sp hd m 3 [a1] = some x1 := by
        have q : DataW.trod enc Tryd.prog W bb sp hd m 3 (([a0, a1, a2, a3, a4].drop 1).take (Tryd.prog.cellsOf 3)) = some x1 := hx 1 _ rfl
        rw [c3] at q
        exact q
      have f2 : DataW.trod enc Tryd.prog W bb sp hd m 9 [a2] = some x2 := by
        have q : DataW.trod enc Tryd.prog W bb sp hd m 9 (([a0, a1, a2, a3, a4].drop 2).take (Tryd.prog.cellsOf 9)) = some x2 := hx 2 _ rfl
        rw [c9] at q
        exact q
      have f3 : DataW.trod enc Tryd.prog W bb sp hd m 52 [a3, a4] = some x3 := by
        have q : DataW.trod enc Tryd.prog W bb sp hd m 52 (([a0, a1, a2, a3, a4].drop 3).take (Tryd.prog.cellsOf 52)) = some x3 := hx 3 _ rfl
        rw [c72] at q
        exact q
      obtain ⟨n0, e0, _, r0⟩ := DataW.trod_int Tryd.underlying3 (x := x0) f0
      obtain ⟨n1, e1, _, r1⟩ := DataW.trod_int Tryd.underlying3 (x := x1) f1
      obtain ⟨s2, e2, _, _⟩ := DataW.trod_string Tryd.underlying9 (x := x2) f2
      obtain ⟨ys, m', _, _, hl0', hl', hy⟩ := DataW.trod_struct (x := x3) Tryd.underlying52 f3
      have hl2 : ys.length = 2 := hl'
      match ys, hl2 with
      | [y0, y1], _ =>
        have k0 : DataW.trod enc Tryd.prog W bb sp hd m' 3 [a3] = some y0 := by
          have q : DataW.trod enc Tryd.prog W bb sp hd m' 3 (([a3, a4].drop 0).take (Tryd.prog.cellsOf 3)) = some y0 := hy 0 _ rfl
          rw [c3] at q
          exact q
        have k1 : DataW.trod enc Tryd.prog W bb sp hd m' 5 [a4] = some y1 := by
          have q : DataW.trod enc Tryd.prog W bb sp hd m' 5 (([a3, a4].drop 1).take (Tryd.prog.cellsOf 5)) = some y1 := hy 1 _ rfl
          rw [c5] at q
          exact q
        obtain ⟨n3, e3, _, r3⟩ := DataW.trod_int Tryd.underlying3 (x := y0) k0
        obtain ⟨n4, e4, _, r4⟩ := DataW.trod_int Tryd.underlying5 (x := y1) k1
        simp at e0 e1 e2 e3 e4
        have q0 := i64_rng r0
        have q1 := i64_rng r1
        have q3 := i64_rng r3
        have q4 : 0 ≤ n4 ∧ n4 < 256 := by
          simp [Lit.wf, IntKind.min, IntKind.max, IntKind.signed, IntKind.bits] at r4
          omega
        refine ⟨⟨n0, n1, s2.data.toList, n3, n4⟩, ?_, by dsimp only; omega, by dsimp only; omega, by dsimp only; omega, q4⟩
        rw [e0, e1, e2, e3, e4, bs_of s2]
        simp [ev, sv, bs_data]
theorem open_event {v : Value} {d : DataW H} {ps : List MemPlace} {r : Reach} {b : Nat} (hval : Value.okWide Tryd.prog W r b 54 v) {sp : Nat → Bool} {hh : Bool} {bb : Nat} (hd : DataW.Trod enc Tryd.prog W bb sp hh 54 v d ps) :
    ∃ e : Ev, v = .agg (ev e).toArray ∧ (-9223372036854775808 ≤ e.k ∧ e.k < 9223372036854775808) ∧ (-9223372036854775808 ≤ e.a ∧ e.a < 9223372036854775808) ∧ (-9223372036854775808 ≤ e.b ∧ e.b < 9223372036854775808) ∧ (0 ≤ e.m ∧ e.m < 256) := by
  obtain ⟨cs, rfl, hsz⟩ := okWide_struct Tryd.underlying54 hval
  obtain ⟨fuel, h⟩ := hd
  obtain ⟨e, h1, h2⟩ := ev_elem h
  have h3 : cs.toList = ev e := h1
  exact ⟨e, by rw [← h3], h2⟩
theorem rel_event (μ : Mu) (e : Ev) : VRel μ (.agg (ev e).toArray) (.agg (ev e).toArray) := by
  have key : ∀ i, i < 5 → VRel μ ((ev e).toArray.getD i unk) ((ev e).toArray.getD i unk) ∧ ((ev e).toArray.getD i unk).oneCell' = true := fun i hi => by
    match i, hi with
    | 0, _ => exact ⟨.int, rfl⟩
    | 1, _ => exact ⟨.int, rfl⟩
    | 2, _ => exact ⟨.string, rfl⟩
    | 3, _ => exact ⟨.int, rfl⟩
    | 4, _ => exact ⟨.int, rfl⟩
  exact .agg rfl (fun i hi => (key i hi).1) (fun i hi => (key i hi).2)
end
end Go.Proofs.YtpcnpnddkgdaeaaDoor.lins
