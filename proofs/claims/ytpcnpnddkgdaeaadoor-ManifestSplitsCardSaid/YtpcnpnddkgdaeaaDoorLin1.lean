/-
  Contracts.
-/
import Derived.Test.YtpcnpnddkgdaeaaDoorVers
import Derived.Test.YtpcnpnddkgdaeaaDoorStr
import Derived.Test.YtpcnpnddkgdaeaaDoorAbEnter
import Derived.Test.YtpcnpnddkgdaeaaDoorAbStep
import Derived.Test.YtpcnpnddkgdaeaaDoorProg
import Derived.IntWalk
import Derived.KernelRfl
set_option linter.unusedSimpArgs false
set_option linter.unusedVariables false
set_option linter.unusedSectionVars false
namespace Go.Proofs.YtpcnpnddkgdaeaaDoor.lin1
open Go Go.Ab Go.Proofs Go.RowKit Go.Proofs.YtpcnpnddkgdaeaaDoor.str Go.Proofs.YtpcnpnddkgdaeaaDoor.vers
variable [Inhabited TabBox]
variable [Nonempty GF]
set_option maxRecDepth 100000
attribute [local simp] s_ops s_seq s_cond s_cond_t s_cond_f s_block s_exit s_ret s_skip s_then_n s_then_n' s_then_e s_then_e' s_then_r s_then_r' s_block_n s_block_r s_block_e s_post_r s_post_n s_res0 s_res1 s_res2 s_res3 s_res4 s_nil s_cons s_guard s_guard_tt s_guard_ff s_guard_tf s_guard_ft s_guard_u s_call s_kL s_put s_put0 s_set s_tmp s_const s_func s_glob s_init s_mkF s_mkF0 s_mv s_bin s_pick s_op aop oK_some oK_none bK_some bK_none b_add b_sub b_mul b_quo b_rem b_and b_or b_xor b_andNot b_shl b_shr b_eql b_neq b_lss b_leq b_gtr b_geq b_sadd b_seql b_sneq b_slss b_sleq b_sgtr b_sgeq s_draw s_drawT s_tK s_tT s_tF s_tB s_tR s_stage s_stage0 s_kW s_kR s_rc0 s_rc s_rcg rK_some rK_none rG_b rG_u s_callv s_callv_f s_nextM s_postR_r s_postR_n s_resA0 s_resAt s_resAc s_resC s_tup0 s_tup1 s_tup2 s_tup3
def c109 : AC := .seq (.ops [⟨ some 0, none, .mv (.const (.slice none 0 0)) ⟩]) (.seq (.ops [⟨ some 1, none, .buildS 16 [.string ⟨ ⟨[] ⟩ ⟩, .string ⟨ ⟨[] ⟩ ⟩, .string ⟨ ⟨[] ⟩ ⟩, .string ⟨ ⟨[] ⟩ ⟩, .string ⟨ ⟨[] ⟩ ⟩, .string ⟨ ⟨[] ⟩ ⟩, .string ⟨ ⟨[] ⟩ ⟩, .string ⟨ ⟨[] ⟩ ⟩, .string ⟨ ⟨[] ⟩ ⟩, .string ⟨ ⟨[] ⟩ ⟩, .string ⟨ ⟨[] ⟩ ⟩, .string ⟨ ⟨[] ⟩ ⟩, .string ⟨ ⟨[] ⟩ ⟩, .string ⟨ ⟨[] ⟩ ⟩, .string ⟨ ⟨[] ⟩ ⟩, .string ⟨ ⟨[] ⟩ ⟩] [(0, 1, .const (.string ⟨ ⟨[] ⟩ ⟩)), (1, 1, .const (.string ⟨ ⟨[66, 79, 79, 84] ⟩ ⟩)), (2, 1, .const (.string ⟨ ⟨[66, 69, 71, 73, 78] ⟩ ⟩)), (3, 1, .const (.string ⟨ ⟨[87, 82, 73, 84, 69, 32, 83] ⟩ ⟩)), (4, 1, .const (.string ⟨ ⟨[70, 73, 78, 73, 83, 72] ⟩ ⟩)), (5, 1, .const (.string ⟨ ⟨[65, 66, 79, 82, 84] ⟩ ⟩)), (6, 1, .const (.string ⟨ ⟨[84, 82, 89] ⟩ ⟩)), (7, 1, .const (.string ⟨ ⟨[67, 79, 78, 70, 73, 82, 77] ⟩ ⟩)), (8, 1, .const (.string ⟨ ⟨[82, 79, 76, 76, 66, 65, 67, 75] ⟩ ⟩)), (9, 1, .const (.string ⟨ ⟨[70, 65, 73, 76] ⟩ ⟩)), (10, 1, .const (.string ⟨ ⟨[80, 82, 79, 86, 73, 83, 73, 79, 78, 32, 65] ⟩ ⟩)), (11, 1, .const (.string ⟨ ⟨[67, 76, 69, 65, 82, 32, 65] ⟩ ⟩)), (12, 1, .const (.string ⟨ ⟨[83, 84, 69, 80] ⟩ ⟩)), (13, 1, .const (.string ⟨ ⟨[70, 85, 83, 69, 32, 65, 66, 77] ⟩ ⟩)), (14, 1, .const (.string ⟨ ⟨[80, 79, 87, 69, 82] ⟩ ⟩)), (15, 1, .const (.string ⟨ ⟨[82, 79, 84, 32, 65, 83] ⟩ ⟩))] ⟩, ⟨ some 0, none, .mv (.tmp 1) ⟩]) .ret)
theorem k109 : compF Tryd.prog Tryd.f109 = some (c109, [0]) := by kernel_rfl
theorem n109 : Tryd.f109.ntmps = 2 := by kernel_rfl
def c62 : AC := .seq (.ops [⟨ some 0, none, .mv (.const (.slice none 0 0)) ⟩]) (.seq (.ops [⟨ some 1, none, .buildS 16 [.string ⟨ ⟨[] ⟩ ⟩, .string ⟨ ⟨[] ⟩ ⟩, .string ⟨ ⟨[] ⟩ ⟩, .string ⟨ ⟨[] ⟩ ⟩, .string ⟨ ⟨[] ⟩ ⟩, .string ⟨ ⟨[] ⟩ ⟩, .string ⟨ ⟨[] ⟩ ⟩, .string ⟨ ⟨[] ⟩ ⟩, .string ⟨ ⟨[] ⟩ ⟩, .string ⟨ ⟨[] ⟩ ⟩, .string ⟨ ⟨[] ⟩ ⟩, .string ⟨ ⟨[] ⟩ ⟩, .string ⟨ ⟨[] ⟩ ⟩, .string ⟨ ⟨[] ⟩ ⟩, .string ⟨ ⟨[] ⟩ ⟩, .string ⟨ ⟨[] ⟩ ⟩] [(0, 1, .const (.string ⟨ ⟨[] ⟩ ⟩)), (1, 1, .const (.string ⟨ ⟨[66, 79, 79, 84] ⟩ ⟩)), (2, 1, .const (.string ⟨ ⟨[66, 69, 71, 73, 78] ⟩ ⟩)), (3, 1, .const (.string ⟨ ⟨[87, 82, 73, 84, 69] ⟩ ⟩)), (4, 1, .const (.string ⟨ ⟨[70, 73, 78, 73, 83, 72] ⟩ ⟩)), (5, 1, .const (.string ⟨ ⟨[65, 66, 79, 82, 84] ⟩ ⟩)), (6, 1, .const (.string ⟨ ⟨[84, 82, 89] ⟩ ⟩)), (7, 1, .const (.string ⟨ ⟨[67, 79, 78, 70, 73, 82, 77] ⟩ ⟩)), (8, 1, .const (.string ⟨ ⟨[82, 79, 76, 76, 66, 65, 67, 75] ⟩ ⟩)), (9, 1, .const (.string ⟨ ⟨[70, 65, 73, 76] ⟩ ⟩)), (10, 1, .const (.string ⟨ ⟨[80, 82, 79, 86, 73, 83, 73, 79, 78] ⟩ ⟩)), (11, 1, .const (.string ⟨ ⟨[67, 76, 69, 65, 82] ⟩ ⟩)), (12, 1, .const (.string ⟨ ⟨[83, 84, 69, 80] ⟩ ⟩)), (13, 1, .const (.string ⟨ ⟨[70, 85, 83, 69] ⟩ ⟩)), (14, 1, .const (.string ⟨ ⟨[80, 79, 87, 69, 82] ⟩ ⟩)), (15, 1, .const (.string ⟨ ⟨[82, 79, 84] ⟩ ⟩))] ⟩, ⟨ some 0, none, .mv (.tmp 1) ⟩]) .ret)
theorem k62 : compF Tryd.prog Tryd.f62 = some (c62, [0]) := by kernel_rfl
theorem n62 : Tryd.f62.ntmps = 2 := by kernel_rfl
def c91 : AC := .seq (.ops [⟨ some 4, none, .mv (.const (.string ⟨ ⟨[] ⟩ ⟩)) ⟩, ⟨ some 5, none, .mv (.const (.string ⟨ ⟨[] ⟩ ⟩)) ⟩, ⟨ some 6, none, .mv (.const (.bool false)) ⟩]) (.seq (.seq (.ops [⟨ some 8, none, .mv (.tmp 0) ⟩, ⟨ some 9, none, .mv (.tmp 1) ⟩, ⟨ some 10, none, .call 111 [.tmp 8, .tmp 9] ⟩, ⟨ some 7, none, .mv (.tmp 10) ⟩]) (.seq (.ops [⟨ some 11, none, .mv (.tmp 7) ⟩, ⟨ some 12, none, .bin .geq (.tmp 11) (.const (.int .i64 0)) ⟩]) (.cond (.tmp 12) (.seq (.draw [([⟨ some 13, none, .mv (.tmp 0) ⟩, ⟨ some 14, none, .mv (.tmp 7) ⟩, ⟨ some 15, none, .slS (.tmp 13) none (some (.tmp 14)) ⟩, ⟨ some 16, none, .mv (.tmp 0) ⟩, ⟨ some 17, none, .mv (.tmp 7) ⟩, ⟨ some 18, none, .mv (.tmp 1) ⟩, ⟨ some 19, none, .lenS true (.tmp 18) ⟩, ⟨ some 20, none, .bin .add (.tmp 17) (.tmp 19) ⟩, ⟨ some 21, none, .slS (.tmp 16) (some (.tmp 20)) none ⟩, ⟨ some 4, none, .mv (.tmp 15) ⟩, ⟨ some 5, none, .mv (.tmp 21) ⟩, ⟨ some 6, none, .mv (.const (.bool true)) ⟩], [], [])]) .ret) .skip))) (.seq (.ops [⟨ some 22, none, .mv (.tmp 0) ⟩, ⟨ some 4, none, .mv (.tmp 22) ⟩, ⟨ some 5, none, .mv (.const (.string ⟨ ⟨[] ⟩ ⟩)) ⟩, ⟨ some 6, none, .mv (.const (.bool false)) ⟩]) .ret))
theorem k91 : compF Tryd.prog Tryd.f91 = some (c91, [4, 5, 6]) := by kernel_rfl
theorem n91 : Tryd.f91.ntmps = 23 := by kernel_rfl
def c66 : AC := .seq (.ops [⟨ some 4, none, .mv (.const (.string ⟨ ⟨[] ⟩ ⟩)) ⟩, ⟨ some 5, none, .mv (.const (.string ⟨ ⟨[] ⟩ ⟩)) ⟩, ⟨ some 6, none, .mv (.const (.bool false)) ⟩]) (.seq (.ops [⟨ some 7, none, .mv (.tmp 0) ⟩, ⟨ some 8, none, .mv (.tmp 1) ⟩, ⟨ some 9, none, .call 91 [.tmp 7, .tmp 8] ⟩, ⟨ some 10, none, .extr (.tmp 9) 0 ⟩, ⟨ some 11, none, .extr (.tmp 9) 1 ⟩, ⟨ some 12, none, .extr (.tmp 9) 2 ⟩, ⟨ some 4, none, .mv (.tmp 10) ⟩, ⟨ some 5, none, .mv (.tmp 11) ⟩, ⟨ some 6, none, .mv (.tmp 12) ⟩]) .ret)
theorem k66 : compF Tryd.prog Tryd.f66 = some (c66, [4, 5, 6]) := by kernel_rfl
theorem n66 : Tryd.f66.ntmps = 13 := by kernel_rfl
def c87 : AC := .seq (.ops [⟨ some 2, none, .mv (.const (.string ⟨ ⟨[] ⟩ ⟩)) ⟩, ⟨ some 3, none, .mv (.const (.string ⟨ ⟨[] ⟩ ⟩)) ⟩]) (.seq (.ops [⟨ some 8, none, .call 109 [] ⟩, ⟨ some 4, none, .mv (.tmp 8) ⟩]) (.seq (.seq (.ops [⟨ some 9, none, .mv (.tmp 0) ⟩, ⟨ some 10, none, .bin .lss (.tmp 9) (.const (.int .i64 1)) ⟩, ⟨ some 11, none, .mv (.tmp 10) ⟩, ⟨ some 12, some (11, false), .mv (.tmp 0) ⟩, ⟨ some 13, some (11, false), .mv (.tmp 4) ⟩, ⟨ some 14, some (11, false), .lenS false (.tmp 13) ⟩, ⟨ some 15, some (11, false), .bin .geq (.tmp 12) (.tmp 14) ⟩, ⟨ some 16, none, .pick (.tmp 11) (.const (.bool true)) (.tmp 15) ⟩]) (.cond (.tmp 16) (.seq (.ops [⟨ some 2, none, .mv (.const (.string ⟨ ⟨[] ⟩ ⟩)) ⟩, ⟨ some 3, none, .mv (.const (.string ⟨ ⟨[] ⟩ ⟩)) ⟩]) .ret) .skip)) (.seq (.ops [⟨ some 18, none, .mv (.tmp 4) ⟩, ⟨ some 19, none, .mv (.tmp 0) ⟩, ⟨ some 20, none, .iAddrS 1 (.tmp 18) (.tmp 19) ⟩, ⟨ some 21, none, .load none (.tmp 20) ⟩, ⟨ some 22, none, .call 66 [.tmp 21, .const (.string ⟨ ⟨[32] ⟩ ⟩)] ⟩, ⟨ some 17, none, .mv (.tmp 22) ⟩, ⟨ some 23, none, .extr (.tmp 17) 0 ⟩, ⟨ some 24, none, .extr (.tmp 17) 1 ⟩, ⟨ some 25, none, .extr (.tmp 17) 2 ⟩, ⟨ some 5, none, .mv (.tmp 23) ⟩, ⟨ some 6, none, .mv (.tmp 24) ⟩, ⟨ some 7, none, .mv (.tmp 25) ⟩]) (.seq (.ops [⟨ some 26, none, .mv (.tmp 5) ⟩, ⟨ some 27, none, .mv (.tmp 6) ⟩, ⟨ some 2, none, .mv (.tmp 26) ⟩, ⟨ some 3, none, .mv (.tmp 27) ⟩]) .ret))))
theorem k87 : compF Tryd.prog Tryd.f87 = some (c87, [2, 3]) := by kernel_rfl
theorem n87 : Tryd.f87.ntmps = 28 := by kernel_rfl
/-! kinds' names, and letters; a cut at a byte -/
def formsL : List (List UInt8) := [[], [66, 79, 79, 84], [66, 69, 71, 73, 78], [87, 82, 73, 84, 69, 32, 83], [70, 73, 78, 73, 83, 72], [65, 66, 79, 82, 84], [84, 82, 89], [67, 79, 78, 70, 73, 82, 77], [82, 79, 76, 76, 66, 65, 67, 75], [70, 65, 73, 76], [80, 82, 79, 86, 73, 83, 73, 79, 78, 32, 65], [67, 76, 69, 65, 82, 32, 65], [83, 84, 69, 80], [70, 85, 83, 69, 32, 65, 66, 77], [80, 79, 87, 69, 82], [82, 79, 84, 32, 65, 83]]
def namesL : List (List UInt8) := [[], [66, 79, 79, 84], [66, 69, 71, 73, 78], [87, 82, 73, 84, 69], [70, 73, 78, 73, 83, 72], [65, 66, 79, 82, 84], [84, 82, 89], [67, 79, 78, 70, 73, 82, 77], [82, 79, 76, 76, 66, 65, 67, 75], [70, 65, 73, 76], [80, 82, 79, 86, 73, 83, 73, 79, 78], [67, 76, 69, 65, 82], [83, 84, 69, 80], [70, 85, 83, 69], [80, 79, 87, 69, 82], [82, 79, 84]]
def lettersL : List (List UInt8) := [[], [], [], [83], [], [], [], [], [], [], [65], [65], [], [65, 66, 77], [], [65, 83]]
theorem forms_ok (h : Heap) : ACalls Tryd.prog 109 [] h fun v h' => v = .slice (some ⟨h.n, 0, none⟩) 16 16 ∧ h' = h.push (.cells (formsL.map sv) .ex 1) := by
  refine acalls_of mix Tryd.func109 k109 n109 (by simp) fun hcl hb => ?_
  have fil : afill [.string ⟨⟨[]⟩⟩, .string ⟨⟨[]⟩⟩, .string ⟨⟨[]⟩⟩, .string ⟨⟨[]⟩⟩, .string ⟨⟨[]⟩⟩, .string ⟨⟨[]⟩⟩, .string ⟨⟨[]⟩⟩, .string ⟨⟨[]⟩⟩, .string ⟨⟨[]⟩⟩, .string ⟨⟨[]⟩⟩, .string ⟨⟨[]⟩⟩, .string ⟨⟨[]⟩⟩, .string ⟨⟨[]⟩⟩, .string ⟨⟨[]⟩⟩, .string ⟨⟨[]⟩⟩, .string ⟨⟨[]⟩⟩] [(0, 1, .string ⟨⟨[]⟩⟩), (1, 1, .string ⟨⟨[66, 79, 79, 84]⟩⟩), (2, 1, .string ⟨⟨[66, 69, 71, 73, 78]⟩⟩), (3, 1, .string ⟨⟨[87, 82, 73, 84, 69, 32, 83]⟩⟩), (4, 1, .string ⟨⟨[70, 73, 78, 73, 83, 72]⟩⟩), (5, 1, .string ⟨⟨[65, 66, 79, 82, 84]⟩⟩), (6, 1, .string ⟨⟨[84, 82, 89]⟩⟩), (7, 1, .string ⟨⟨[67, 79, 78, 70, 73, 82, 77]⟩⟩), (8, 1, .string ⟨⟨[82, 79, 76, 76, 66, 65, 67, 75]⟩⟩), (9, 1, .string ⟨⟨[70, 65, 73, 76]⟩⟩), (10, 1, .string ⟨⟨[80, 82, 79, 86, 73, 83, 73, 79, 78, 32, 65]⟩⟩), (11, 1, .string ⟨⟨[67, 76, 69, 65, 82, 32, 65]⟩⟩), (12, 1, .string ⟨⟨[83, 84, 69, 80]⟩⟩), (13, 1, .string ⟨⟨[70, 85, 83, 69, 32, 65, 66, 77]⟩⟩), (14, 1, .string ⟨⟨[80, 79, 87, 69, 82]⟩⟩), (15, 1, .string ⟨⟨[82, 79, 84, 32, 65, 83]⟩⟩)] = some (formsL.map sv) := rfl
  simp [c109, fil]
theorem names_ok (h : Heap) : ACalls Tryd.prog 62 [] h fun v h' => v = .slice (some ⟨h.n, 0, none⟩) 16 16 ∧ h' = h.push (.cells (namesL.map sv) .ex 1) := by
  refine acalls_of mix Tryd.func62 k62 n62 (by simp) fun hcl hb => ?_
  have fil : afill [.string ⟨⟨[]⟩⟩, .string ⟨⟨[]⟩⟩, .string ⟨⟨[]⟩⟩, .string ⟨⟨[]⟩⟩, .string ⟨⟨[]⟩⟩, .string ⟨⟨[]⟩⟩, .string ⟨⟨[]⟩⟩, .string ⟨⟨[]⟩⟩, .string ⟨⟨[]⟩⟩, .string ⟨⟨[]⟩⟩, .string ⟨⟨[]⟩⟩, .string ⟨⟨[]⟩⟩, .string ⟨⟨[]⟩⟩, .string ⟨⟨[]⟩⟩, .string ⟨⟨[]⟩⟩, .string ⟨⟨[]⟩⟩] [(0, 1, .string ⟨⟨[]⟩⟩), (1, 1, .string ⟨⟨[66, 79, 79, 84]⟩⟩), (2, 1, .string ⟨⟨[66, 69, 71, 73, 78]⟩⟩), (3, 1, .string ⟨⟨[87, 82, 73, 84, 69]⟩⟩), (4, 1, .string ⟨⟨[70, 73, 78, 73, 83, 72]⟩⟩), (5, 1, .string ⟨⟨[65, 66, 79, 82, 84]⟩⟩), (6, 1, .string ⟨⟨[84, 82, 89]⟩⟩), (7, 1, .string ⟨⟨[67, 79, 78, 70, 73, 82, 77]⟩⟩), (8, 1, .string ⟨⟨[82, 79, 76, 76, 66, 65, 67, 75]⟩⟩), (9, 1, .string ⟨⟨[70, 65, 73, 76]⟩⟩), (10, 1, .string ⟨⟨[80, 82, 79, 86, 73, 83, 73, 79, 78]⟩⟩), (11, 1, .string ⟨⟨[67, 76, 69, 65, 82]⟩⟩), (12, 1, .string ⟨⟨[83, 84, 69, 80]⟩⟩), (13, 1, .string ⟨⟨[70, 85, 83, 69]⟩⟩), (14, 1, .string ⟨⟨[80, 79, 87, 69, 82]⟩⟩), (15, 1, .string ⟨⟨[82, 79, 84]⟩⟩)] = some (namesL.map sv) := rfl
  simp [c62, fil]

def cutB (c : UInt8) (l : List UInt8) : List UInt8 × List UInt8 × Bool := match idx1 c l with
  | some i => (l.take i, l.drop (i + 1), true)
  | none => (l, [], false)
theorem idxS1_ok (l : List UInt8) (c : UInt8) (h : Heap) : ACalls Tryd.prog 111 [.string (bs l), .string (bs [c])] h fun v h' => v = .int .i64 (match idx1 c l with | some i => (i : Int) | none => -1) ∧ h' = h := by
  refine acalls_of mix Tryd.func111 k111 n111 (by simp) fun hcl hb => ?_
  have hs1 : (bs [c]).size = 1 := rfl
  have hd1 : (bs [c]).data.toList = [c] := rfl
  have h0 : aidx (.int .i64 0) 1 = some 0 := rfl
  by_cases heq : bs [c] = bs l
  · have : l = [c] := (bs_inj.1 heq).symm
    subst this
    simp [c111, hs1, hd1, h0, idx1]
  · simp [c111, hs1, hd1, h0, heq]
    exact (iby_ok l c h).mono fun v h' q => by
      obtain ⟨rfl, rfl⟩ := q
      simp
      cases idx1 c l <;> rfl
theorem cut1_ok (l : List UInt8) (c : UInt8) (h : Heap) (hl : l.length ≤ 1000000) : ACalls Tryd.prog 66 [.string (bs l), .string (bs [c])] h fun v h' => v = .tuple #[sv (cutB c l).1, sv (cutB c l).2.1, .bool (cutB c l).2.2] ∧ h' = h := by
  refine acalls_of mix Tryd.func66 k66 n66 (by simp) fun hcl hb => ?_
  simp [c66]
  refine ACalls.mono (R := fun v h' => v = .tuple #[sv (cutB c l).1, sv (cutB c l).2.1, .bool (cutB c l).2.2] ∧ h' = h) ?_ ?_
  · refine acalls_of mix Tryd.func91 k91 n91 (by simp) fun hcl hb => ?_
    simp [c91]
    refine (idxS1_ok l c h).mono ?_
    rintro _ h9 ⟨rfl, e⟩
    rw [e]; clear e h9
    cases hx : idx1 c l with
    | none => simp [cutB, hx]; exact ⟨rfl, rfl⟩
    | some i =>
      obtain ⟨a, b, rfl, hca, rfl⟩ := idx1_some hx
      have hs1 : (bs [c]).size = 1 := rfl
      have q1 : IntKind.i64.wrap ((a.length : Int) + 1) = ((a.length + 1 : Nat) : Int) := w1 _ (by simp at hl; omega)
      have b1 : abounds (bs (a ++ c :: b)).size (bs (a ++ c :: b)).size none (some (.int .i64 (a.length : Int))) none = some (0, a.length, (bs (a ++ c :: b)).size) := abounds_hi (by rw [bs_size]; simp)
      have b2 : abounds (bs (a ++ c :: b)).size (bs (a ++ c :: b)).size (some (.int .i64 ((a.length + 1 : Nat) : Int))) none none = some (a.length + 1, (bs (a ++ c :: b)).size, (bs (a ++ c :: b)).size) := abounds_lo (by rw [bs_size]; simp) (Nat.le_refl _)
      have x1 : (bs (a ++ c :: b)).extract 0 a.length = bs a := by rw [bs_extract]; simp
      have x2 : (bs (a ++ c :: b)).extract (a.length + 1) (bs (a ++ c :: b)).size = bs b := by
        rw [bs_extract, bs_size, List.take_of_length_le (Nat.le_refl _), ← List.drop_drop]
        simp
      have k1 : cutB c (a ++ c :: b) = (a, b, true) := by
        unfold cutB
        rw [hx]
        dsimp only
        rw [List.take_left, ← List.drop_drop]
        simp
      simp [hs1, q1, b1, b2, x1, x2, k1, -Int.natCast_add]
      exact ⟨rfl, rfl⟩
  · rintro v h' ⟨rfl, rfl⟩
    simp
theorem formsL_len : formsL.length = 16 := rfl
/-- a kind's name, and its letters -/
def nmB (k : Int) : List UInt8 := if 1 ≤ k ∧ k ≤ 15 then namesL.getD k.toNat [] else []
def ltB (k : Int) : List UInt8 := if 1 ≤ k ∧ k ≤ 15 then lettersL.getD k.toNat [] else []
theorem form_ok (k : Int) (h : Heap) : ACalls Tryd.prog 87 [.int .i64 k] h fun v h' => v = .tuple #[sv (nmB k), sv (ltB k)] ∧ h' = h := by
  refine ACalls.same (vb_tup2 .string .string) (acalls_of mix Tryd.func87 k87 n87 (by simp) fun hcl hb => ?_)
  have e0 := (Heap.Ext.refl h).push hcl (.cells (formsL.map sv) .ex 1)
  have f0 := cellsOf_new h (formsL.map sv) .ex 1
  simp [c87]
  refine (forms_ok h).mono ?_
  rintro _ h9 ⟨rfl, e⟩
  rw [e]; clear e h9
  by_cases q0 : k < 1
  · have hk : ¬ (1 ≤ k ∧ k ≤ 15) := by omega
    simp [q0, nmB, ltB, hk]
    exact ⟨rfl, e0⟩
  · by_cases q1 : 16 ≤ k
    · have hk : ¬ (1 ≤ k ∧ k ≤ 15) := by omega
      simp [q0, q1, nmB, ltB, hk]
      exact ⟨rfl, e0⟩
    · have hk : 1 ≤ k ∧ k ≤ 15 := by omega
      obtain ⟨i, hi, rfl⟩ : ∃ i : Nat, i < 16 ∧ k = i := ⟨k.toNat, by omega, by omega⟩
      have hg : (formsL.map sv)[i]? = some (.string (bs (formsL.getD i []))) := by
        rw [List.getElem?_map, List.getElem?_eq_getElem (by rw [formsL_len]; exact hi)]
        have h1 : formsL.getD i [] = formsL[i]'(by rw [formsL_len]; exact hi) := by rw [List.getD, List.getElem?_eq_getElem (by rw [formsL_len]; exact hi)]; rfl
        rw [h1]; rfl
      have hcut : ∀ j : Fin 16, cutB 32 (formsL.getD j.val []) = (namesL.getD j.val [], lettersL.getD j.val [], (cutB 32 (formsL.getD j.val [])).2.2) ∧ (formsL.getD j.val []).length ≤ 1000000 := by decide
      obtain ⟨hc1, hc2⟩ := hcut ⟨i, hi⟩
      dsimp only at hc1 hc2
      simp [q0, q1, f0, aidx_of hi, apart, hg, bs_lit]
      refine (cut1_ok _ 32 _ hc2).mono ?_
      rintro _ h9 ⟨rfl, e⟩
      rw [e]; clear e h9
      rw [hc1]
      simp [nmB, ltB, hk]
      exact e0
def c69_0 : AC := .seq (.ops [⟨ some 12, none, .bin .lss (.tmp 11) (.tmp 10) ⟩]) (.seq (.cond (.tmp 12) .skip (.exit 0)) (.seq (.block 1 (.seq (.ops [⟨ some 13, none, .iAddrS 1 (.tmp 9) (.tmp 11) ⟩, ⟨ some 14, none, .load none (.tmp 13) ⟩, ⟨ some 5, none, .mv (.tmp 14) ⟩]) (.draw [([⟨ some 15, none, .mv (.tmp 3) ⟩, ⟨ some 16, none, .mv (.tmp 5) ⟩, ⟨ some 17, none, .bin .shr (.tmp 16) (.const (.int .u64 4)) ⟩, ⟨ some 18, none, .iStr (.const (.string ⟨ ⟨[48, 49, 50, 51, 52, 53, 54, 55, 56, 57, 97, 98, 99, 100, 101, 102] ⟩ ⟩)) (.tmp 17) ⟩, ⟨ some 19, none, .mv (.tmp 5) ⟩, ⟨ some 20, none, .bin .and (.tmp 19) (.const (.int .u8 15)) ⟩, ⟨ some 21, none, .iStr (.const (.string ⟨ ⟨[48, 49, 50, 51, 52, 53, 54, 55, 56, 57, 97, 98, 99, 100, 101, 102] ⟩ ⟩)) (.tmp 20) ⟩], [⟨ some 22, none, .buildS 2 [.int .u8 0, .int .u8 0] [(0, 1, .tmp 18), (1, 1, .tmp 21)] ⟩], []), ([], [⟨ some 23, none, .app 1 1 5 (.tmp 15) (.tmp 22) ⟩], []), ([], [⟨ some 3, none, .mv (.tmp 23) ⟩], []), ([], [], [])]))) (.ops [⟨ some 24, none, .bin .add (.tmp 11) (.const (.int .i64 1)) ⟩, ⟨ some 11, none, .mv (.tmp 24) ⟩])))
def c69 : AC := .seq (.ops [⟨ some 2, none, .mv (.const (.string ⟨ ⟨[] ⟩ ⟩)) ⟩]) (.seq (.ops [⟨ some 6, none, .buildS 1 [.int .u8 0] [(0, 1, .const (.int .u8 61))] ⟩, ⟨ some 7, none, .slId (.tmp 6) ⟩, ⟨ some 3, none, .mv (.tmp 7) ⟩]) (.seq (.seq (.ops [⟨ some 8, none, .mv (.tmp 0) ⟩, ⟨ some 9, none, .toBytes 5 (.tmp 8) ⟩, ⟨ some 10, none, .lenS false (.tmp 9) ⟩, ⟨ some 11, none, .mv (.const (.int .i64 0)) ⟩]) (.block 0 (.loop c69_0))) (.seq (.ops [⟨ some 25, none, .mv (.tmp 3) ⟩, ⟨ some 26, none, .toStr (.tmp 25) ⟩, ⟨ some 2, none, .mv (.tmp 26) ⟩]) .ret)))
theorem k69 : compF Tryd.prog Tryd.f69 = some (c69, [2]) := by kernel_rfl
theorem n69 : Tryd.f69.ntmps = 27 := by kernel_rfl
/-! lists that one appends to, among other blocks -/
def LAt (h : Heap) (esz : Nat) (nm : Option Nat) (v : Value) (n : Nat) (cells : List Value) : Prop :=
  (nm = none ∧ v = .slice none 0 0 ∧ n = 0 ∧ cells = []) ∨ ∃ x md e, nm = some x ∧ v = .slice (some ⟨x, 0, none⟩) n n ∧ h.cellsOf x = some (cells, md, e) ∧ cells.length = n * esz ∧ md ≠ .ro ∧ (md.isLoose = true → e = esz)
theorem LAt.form {h : Heap} {esz n : Nat} {nm : Option Nat} {v : Value} {cells : List Value} (l : LAt h esz nm v n cells) : ∃ a, v = .slice a n n := by
  rcases l with ⟨_, rfl, rfl, _⟩ | ⟨x, md, e, _, rfl, _⟩
  · exact ⟨none, rfl⟩
  · exact ⟨_, rfl⟩
theorem LAt.keep {h h' : Heap} {esz n : Nat} {nm : Option Nat} {v : Value} {cells : List Value} (l : LAt h esz nm v n cells) (hk : ∀ x, nm = some x → h'.m x = h.m x) : LAt h' esz nm v n cells := by
  rcases l with q | ⟨x, md, e, h1, h2, h3, h4⟩
  · exact .inl q
  · refine .inr ⟨x, md, e, h1, h2, ?_, h4⟩
    unfold Heap.cellsOf at h3 ⊢
    rw [hk x h1]; exact h3
theorem LAt.below {h : Heap} {esz n : Nat} {nm : Option Nat} {v : Value} {cells : List Value} (l : LAt h esz nm v n cells) (hc : h.Closed) : VBelow h.n v := by
  rcases l with ⟨_, rfl, _⟩ | ⟨x, md, e, _, rfl, h3, _⟩
  · exact .snil
  · exact .slice (cellsOf_lt hc h3)
theorem LAt.lt {h : Heap} {esz n x : Nat} {v : Value} {cells : List Value} (l : LAt h esz (some x) v n cells) (hc : h.Closed) : x < h.n := by
  rcases l with ⟨q, _⟩ | ⟨y, md, e, q, _, h3, _⟩
  · cases q
  · cases q; exact cellsOf_lt hc h3
theorem LAt.sl {α : Type} {enc : α → Value} {h : Heap} {n : Nat} {nm : Option Nat} {v : Value} {l : List α} (q : LAt h 1 nm v n (l.map enc)) : Sl enc h v l := by
  rcases q with ⟨_, rfl, rfl, h4⟩ | ⟨x, md, e, _, rfl, h3, h4, _⟩
  · exact .inl ⟨0, rfl, by simpa using h4⟩
  · have hl : l.length = n := by simpa using h4
    subst hl
    exact .inr ⟨x, 0, _, l.map enc, md, e, rfl, h3, Nat.le_refl _, fun _ => by simp, fun i hi => by simp [hi]⟩
theorem LAt.made (h : Heap) (esz : Nat) : LAt (h.push (.cells [] .ex 1)) esz (some h.n) (.slice (some ⟨h.n, 0, none⟩) 0 0) 0 [] :=
  .inr ⟨h.n, .ex, 1, rfl, rfl, cellsOf_new _ _ _ _, by simp, by decide, fun q => by cases q⟩
theorem lat_app {h : Heap} {t esz bytes n k : Nat} {nm : Option Nat} {v : Value} {cells new : List Value} (hc : h.Closed) (l : LAt h esz nm v n cells) (hk : 0 < k) (hnew : new.length = k * esz) (hb : ∀ x ∈ new, VBelow h.n x) (hsm : (n + k) * (bytes + 1) ≤ 1099511627776) :
    ∃ a, v = .slice a n n ∧ ∃ v2 H2, aapp h t esz bytes a n n new k = some (v2, H2) ∧ LAt H2 esz (some h.n) v2 (n + k) (cells ++ new) ∧ (∀ y ob, h.m y = some ob → nm ≠ some y → H2.m y = some ob) ∧ H2.n = h.n + 1 ∧ H2.Closed := by
  rcases l with ⟨rfl, rfl, rfl, rfl⟩ | ⟨x, md, e, rfl, rfl, hx, hcl, hro, hes⟩
  · refine ⟨none, rfl, .slice (some ⟨h.n, 0, none⟩) k k, h.push (.cells new (.loose t) esz), ?_, .inr ⟨h.n, .loose t, esz, rfl, by simp, by simpa using cellsOf_new h new (.loose t) esz, by simpa using hnew, by simp, fun _ => rfl⟩, fun y ob e _ => ?_, rfl, closed_push hc fun x hx => (hb x hx).mono (Nat.le_succ _)⟩
    · unfold aapp
      dsimp only
      rw [if_pos ⟨hsm, hnew⟩]
      simp [show k ≠ 0 by omega]
    · rw [push_m, if_neg (by have := (hc y ob e).1; omega)]; exact e
  · have hcut : acut cells 0 (n * esz) = some cells := by rw [← hcl]; exact acut_all cells
    have hxn := cellsOf_lt hc hx
    have hcb : ∀ v ∈ cells ++ new, VBelow (h.n + 1) v := fun v hv => by
      rcases List.mem_append.1 hv with q | q
      · exact ((hc x _ (m_of_cells hx)).2 v q).mono (Nat.le_succ _)
      · exact (hb v q).mono (Nat.le_succ _)
    have hlen : (cells ++ new).length = (n + k) * esz := by simp [hcl, hnew, Nat.add_mul]
    by_cases hl : md.isLoose = true
    · obtain rfl := hes hl
      have hgl : (md.grown t).isLoose = true := by unfold BMode.grown; split <;> (try split) <;> rfl
      refine ⟨some ⟨x, 0, none⟩, rfl, .slice (some ⟨h.n, 0, none⟩) (n + k) (n + k), (h.kill x).push (.cells (cells ++ new) (md.grown t) e), ?_,
        .inr ⟨h.n, md.grown t, e, rfl, rfl, cellsOf_new (h.kill x) _ _ _, hlen, (by intro q; rw [q] at hgl; cases hgl), fun _ => rfl⟩, fun y ob e hne => ?_, rfl, closed_push (fun y ob e => ?_) hcb⟩
      · unfold aapp
        dsimp only
        rw [if_pos ⟨hsm, hnew⟩, hx]
        simp only [if_true]
        rw [hcut]
        simp only [hl, if_true]
        rw [if_neg (by omega), if_pos (by omega)]
      · have hlt := (hc y ob e).1
        rw [push_m, if_neg (by show ¬ y = h.n; omega), kill_m, if_neg (fun q => hne (by rw [q]))]; exact e
      · rw [kill_m] at e
        split at e
        · cases e
        · exact hc y ob e
    · refine ⟨some ⟨x, 0, none⟩, rfl, .slice (some ⟨h.n, 0, none⟩) (n + k) (n + k), h.push (.cells (cells ++ new) (.loose t) esz), ?_,
        .inr ⟨h.n, .loose t, esz, rfl, rfl, cellsOf_new _ _ _ _, hlen, by simp, fun _ => rfl⟩, fun y ob e hne => ?_, rfl, closed_push hc hcb⟩
      · unfold aapp
        dsimp only
        rw [if_pos ⟨hsm, hnew⟩, hx]
        simp only [if_true]
        rw [hcut]
        simp only
        rw [if_neg hl, if_neg (by omega)]
      · have hlt := (hc y ob e).1
        rw [push_m, if_neg (by omega)]; exact e
structure Gr (h H : Heap) : Prop where
  n : h.n ≤ H.n
  cl : H.Closed
  m : ∀ y ob, h.m y = some ob → H.m y = some ob
theorem Gr.push {h H : Heap} (g : Gr h H) {o : AObj} (ho : o.Below (H.n + 1)) : Gr h (H.push o) :=
  ⟨Nat.le_succ_of_le g.n, closed_push g.cl ho, fun y ob e => by have q := g.m y ob e; rw [push_m, if_neg (by have := (g.cl y ob q).1; omega)]; exact q⟩
theorem Gr.sub {h H : Heap} (g : Gr h H) : H.Sub h.n H := ⟨g.n, Nat.le_refl _, fun _ _ e => e, g.cl⟩
theorem lat_bytes {H : Heap} {nm : Option Nat} {v : Value} {l : List UInt8} (hc : H.Closed) (q : LAt H 1 nm v l.length (ubs l)) (M : List UInt8) (hM : 0 < M.length) (hl : l.length + M.length ≤ 100000000) :
    ∃ a, v = .slice a l.length l.length ∧ ∃ v2 H2, aapp (H.push (.cells (ubs M) .ex 1)) 5 1 1 a l.length l.length (ubs M) M.length = some (v2, H2) ∧ LAt H2 1 (some (H.n + 1)) v2 (l ++ M).length (ubs (l ++ M)) ∧
      (∀ y ob, H.m y = some ob → nm ≠ some y → H2.m y = some ob) ∧ H2.n = H.n + 2 ∧ H2.Closed := by
  have l1 : LAt (H.push (.cells (ubs M) .ex 1)) 1 nm v l.length (ubs l) := q.keep fun y e => by
    subst e
    rw [push_m, if_neg (by have := q.lt hc; omega)]
  have hcp : (H.push (.cells (ubs M) .ex 1)).Closed := closed_push hc (o := .cells (ubs M) .ex 1) ubs_bel
  obtain ⟨a, q, v2, H2, happ, l2, keep2, n2, c2⟩ := lat_app (t := 5) (bytes := 1) (k := M.length) (new := ubs M) hcp l1 hM (by rw [ubs_len, Nat.mul_one]) ubs_bel (by omega)
  refine ⟨a, q, v2, H2, happ, ?_, fun y ob e hne => keep2 y ob (by rw [push_m, if_neg (by have := (hc y ob e).1; omega)]; exact e) hne, n2, c2⟩
  rw [ubs_app, List.length_append]; exact l2
/-! hex -/
def digs : List UInt8 := [48, 49, 50, 51, 52, 53, 54, 55, 56, 57, 97, 98, 99, 100, 101, 102]
def dg (k : Nat) : UInt8 := digs.getD k 0
def hexB (D : List UInt8) : List UInt8 := D.flatMap fun b => [dg (b.toNat / 16), dg (b.toNat % 16)]
theorem hexB_app (a b : List UInt8) : hexB (a ++ b) = hexB a ++ hexB b := List.flatMap_append
theorem hexB_len (D : List UInt8) : (hexB D).length = 2 * D.length := by
  induction D with
  | nil => rfl
  | cons x r ih =>
    have : hexB (x :: r) = [dg (x.toNat / 16), dg (x.toNat % 16)] ++ hexB r := rfl
    rw [this, List.length_append, ih]
    simp; omega
theorem digs_get (k : Nat) (h : k < 16) : digs[k]? = some (dg k) := by
  unfold dg
  rw [List.getD, List.getElem?_eq_getElem (by show k < 16; exact h)]
  rfl
theorem and15 (n : Nat) (h : n < 256) : abits .and .u8 (n : Int) 15 = ((n % 16 : Nat) : Int) := by
  unfold abits
  have e1 : BitVec.ofInt 8 (n : Int) = BitVec.ofNat 8 n := by apply BitVec.eq_of_toNat_eq; simp
  have e2 : BitVec.ofInt 8 (15 : Int) = BitVec.ofNat 8 15 := rfl
  show IntKind.u8.wrap (((BitVec.ofInt 8 (n : Int)) &&& (BitVec.ofInt 8 15)).toNat : Int) = _
  rw [e1, e2, BitVec.toNat_and, BitVec.toNat_ofNat, BitVec.toNat_ofNat]
  have h1 : (n % 2 ^ 8) &&& (15 % 2 ^ 8) = n % 16 := by
    rw [Nat.mod_eq_of_lt h]
    exact Nat.and_two_pow_sub_one_eq_mod n 4
  rw [h1]
  unfold IntKind.wrap; simp [IntKind.bits, IntKind.signed]; omega

/-- a text's word -/
def wordB (s : List UInt8) : List UInt8 := 61 :: hexB s
theorem lat_str {H : Heap} {nm : Option Nat} {v : Value} {l : List UInt8} (q : LAt H 1 nm v l.length (ubs l)) :
    (v = .slice none 0 0 ∧ l = []) ∨ ∃ x, v = .slice (some ⟨x, 0, none⟩) l.length l.length ∧ afirst H 1 l.length (.slice (some ⟨x, 0, none⟩) l.length l.length) = some (ubs l) := by
  rcases q with ⟨_, rfl, h1, h2⟩ | ⟨x, md, e, _, rfl, h3, h4, _⟩
  · exact .inl ⟨rfl, by simpa [ubs] using h2⟩
  · refine .inr ⟨x, rfl, ?_⟩
    simp only [afirst, h3, if_true]
    exact acut_full (by rw [ubs_len, Nat.mul_one])
structure XS where
  i : Nat
  nm : Option Nat
  v : Value
  H : Heap
theorem text_ok (s : List UInt8) (hs : s.length ≤ 1000000) (h : Heap) : ACalls Tryd.prog 69 [.string (bs s)] h fun v h' => v = sv (wordB s) ∧ h' = h := by
  refine ACalls.same .string (acalls_of mix Tryd.func69 k69 n69 (by simp) fun hcl hb => ?_)
  have fil : afill [.int .u8 0] [(0, 1, .int .u8 61)] = some (ubs [61]) := rfl
  have f0 := cellsOf_new h (ubs [61]) .ex 1
  simp only [c69, s_seq, s_ops]
  have hub : List.map (fun b : UInt8 => Value.int IntKind.u8 (b.toNat : Int)) s = ubs s := rfl
  have hsm : s.length ≤ 1099511627776 := by omega
  have c1 : (h.push (.cells (ubs [61]) .ex 1)).Closed := closed_push hcl ubs_bel
  have c2 : ((h.push (.cells (ubs [61]) .ex 1)).push (.cells (ubs s) (.loose 5) 1)).Closed := closed_push c1 ubs_bel
  have e2 := ((Heap.Ext.refl h).push hcl (.cells (ubs [61]) .ex 1)).push hcl (.cells (ubs s) (.loose 5) 1)
  have n2 : ((h.push (.cells (ubs [61]) .ex 1)).push (.cells (ubs s) (.loose 5) 1)).n = h.n + 2 := rfl
  have m0 : LAt ((h.push (.cells (ubs [61]) .ex 1)).push (.cells (ubs s) (.loose 5) 1)) 1 (some h.n) (.slice (some ⟨h.n, 0, none⟩) 1 1) 1 (ubs [61]) :=
    .inr ⟨h.n, .ex, 1, rfl, rfl, by rw [cellsOf_ne (by show ¬ h.n = h.n + 1; omega)]; exact f0, rfl, by decide, fun q => by cases q⟩
  have mB : ((h.push (.cells (ubs [61]) .ex 1)).push (.cells (ubs s) (.loose 5) 1)).m (h.n + 1) = some (.cells (ubs s) (.loose 5) 1) := by
    exact if_pos rfl
  simp [fil, f0, bs_size, bs_data, hub, hsm]
  generalize (h.push (.cells (ubs [61]) .ex 1)).push (.cells (ubs s) (.loose 5) 1) = H0 at *
  refine awp_loop_of (α := XS) (fun z => z.i ≤ s.length ∧ LAt z.H 1 z.nm z.v (wordB (s.take z.i)).length (ubs (wordB (s.take z.i))) ∧ Gr h z.H ∧ H0.n ≤ z.H.n ∧ z.H.m (h.n + 1) = some (.cells (ubs s) (.loose 5) 1) ∧ ∀ x, z.nm = some x → h.n ≤ x ∧ x ≠ h.n + 1)
    (fun z => [(3, z.v), (9, .slice (some ⟨h.n + 1, 0, none⟩) s.length s.length), (10, .int .i64 s.length), (11, .int .i64 z.i)]) (fun z => z.H) (fun z => s.length - z.i) ⟨0, some h.n, _, H0⟩
    ⟨Nat.zero_le _, m0, ⟨by show h.n ≤ H0.n; omega, c2, e2.m⟩, Nat.le_refl _, mB, fun x e => by cases e; omega⟩ ⟨by show h.n ≤ H0.n; omega, Nat.le_refl _, fun _ _ e => e, c2⟩ (by simp; exact ⟨vb_slice (by show h.n < H0.n; omega), vb_slice (by show h.n + 1 < H0.n; omega), .int, .int⟩) ?_
  rintro ⟨i, nm, v, H⟩ ⟨hi, hl, hg, hn, hm, hnm⟩
  dsimp only at hi hl hg hn hm hnm ⊢
  by_cases hlt : i < s.length
  · have hi' : (i : Int) < (s.length : Int) := by omega
    have hc1 : H.cellsOf (h.n + 1) = some (ubs s, .loose 5, 1) := by unfold Heap.cellsOf; rw [hm]
    have hgt := ubs_get hlt
    have htk : s.take (i + 1) = s.take i ++ [s[i]] := by rw [List.take_succ_eq_append_getElem hlt]
    have hx1 : wordB (s.take (i + 1)) = wordB (s.take i) ++ [dg (s[i].toNat / 16), dg (s[i].toNat % 16)] := by
      unfold wordB
      rw [htk, hexB_app]
      rfl
    have hlen : (wordB (s.take i)).length ≤ 2000001 := by unfold wordB; rw [List.length_cons, hexB_len, List.length_take]; omega
    have hc := s[i].toNat_lt
    generalize s[i].toNat = c at *
    have q1 : (c : Int).fdiv 16 = ((c / 16 : Nat) : Int) := by rw [Int.fdiv_eq_ediv_of_nonneg _ (by decide)]; omega
    have q2 := and15 c hc
    have i1 : aidx (.int .u8 ((c / 16 : Nat) : Int)) 16 = some (c / 16) := aidx_of (by omega)
    have i2 : aidx (.int .u8 ((c % 16 : Nat) : Int)) 16 = some (c % 16) := aidx_of (by omega)
    have d1 := digs_get (c / 16) (by omega)
    have d2 := digs_get (c % 16) (by omega)
    have b8 : IntKind.u8.bits = 8 := rfl
    have hds : (bs digs).size = 16 := rfl
    have hdd : (bs digs).data.toList = digs := rfl
    have hcd : (⟨⟨[48, 49, 50, 51, 52, 53, 54, 55, 56, 57, 97, 98, 99, 100, 101, 102]⟩⟩ : ByteArray) = bs digs := rfl
    generalize c / 16 = u at *
    generalize c % 16 = w at *
    have w4 : IntKind.i64.wrap ((i : Int) + 1) = ((i + 1 : Nat) : Int) := w1 i (by omega)
    obtain ⟨a, rfl, v2, H2, happ, l2, keep2, n3, c3⟩ := lat_bytes hg.cl hl [dg u, dg w] (by simp) (by simp; omega)
    have fil2 : afill [.int .u8 0, .int .u8 0] [(0, 1, .int .u8 ((dg u).toNat : Int)), (1, 1, .int .u8 ((dg w).toNat : Int))] = some (ubs [dg u, dg w]) := rfl
    have hfst : afirst (H.push (.cells (ubs [dg u, dg w]) .ex 1)) 1 2 (.slice (some ⟨H.n, 0, none⟩) 2 2) = some (ubs [dg u, dg w]) := by
      simp only [afirst, cellsOf_new, if_true]
      rfl
    have hlw : [dg u, dg w].length = 2 := rfl
    rw [hlw] at happ
    simp [c69_0, hi', aidx_of hlt, apart, hc1, hgt, b8, q1, q2, hcd, hds, hdd, i1, i2, d1, d2, fil2, alen, hfst, happ, w4, -Int.natCast_add]
    refine ⟨⟨i + 1, some (H.n + 1), v2, H2⟩, by show s.length - (i + 1) < s.length - i; omega, ⟨by show i + 1 ≤ s.length; omega, ?_, ⟨by have := hg.n; show h.n ≤ H2.n; omega, c3, fun y ob e => keep2 y ob (hg.m y ob e) (fun q => by have := (hnm y q).1; have := (hcl y ob e).1; omega)⟩, by show H0.n ≤ H2.n; omega, ?_, fun x e => by cases e; show h.n ≤ H.n + 1 ∧ H.n + 1 ≠ h.n + 1; omega⟩, ⟨by have := hg.n; show h.n ≤ H2.n; omega, Nat.le_refl _, fun _ _ e => e, c3⟩, ⟨rfl, l2.below c3⟩, vb_slice (by show h.n + 1 < H2.n; omega), .int, rfl, .int⟩
    · show LAt H2 1 (some (H.n + 1)) v2 (wordB (s.take (i + 1))).length (ubs (wordB (s.take (i + 1))))
      rw [hx1]; exact l2
    · exact keep2 _ _ hm fun q => (hnm _ q).2 rfl
  · have hie : i = s.length := by omega
    subst hie
    have hi' : ¬ (s.length : Int) < (s.length : Int) := by omega
    rw [List.take_of_length_le (Nat.le_refl _)] at hl
    rcases lat_str hl with ⟨_, q⟩ | ⟨x, rfl, hfs⟩
    · cases q
    simp [c69_0, hfs, abytes_ubs]
    exact ⟨rfl, hg.n, hg.m⟩
def c119 : AC := .seq (.ops [⟨ some 4, none, .mv (.const (.int .i64 0)) ⟩]) (.seq (.ops [⟨ some 5, none, .mv (.tmp 0) ⟩, ⟨ some 6, none, .mv (.tmp 1) ⟩, ⟨ some 7, none, .call 132 [.tmp 5, .tmp 6] ⟩, ⟨ some 4, none, .mv (.tmp 7) ⟩]) .ret)
theorem k119 : compF Tryd.prog Tryd.f119 = some (c119, [4]) := by kernel_rfl
theorem n119 : Tryd.f119.ntmps = 8 := by kernel_rfl
def c120 : AC := .seq (.ops [⟨ some 4, none, .mv (.const (.bool false)) ⟩]) (.seq (.ops [⟨ some 5, none, .mv (.tmp 0) ⟩, ⟨ some 6, none, .lenS true (.tmp 5) ⟩, ⟨ some 7, none, .mv (.tmp 1) ⟩, ⟨ some 8, none, .lenS true (.tmp 7) ⟩, ⟨ some 9, none, .bin .geq (.tmp 6) (.tmp 8) ⟩, ⟨ some 10, none, .mv (.tmp 9) ⟩, ⟨ some 11, some (10, true), .mv (.tmp 0) ⟩, ⟨ some 12, some (10, true), .mv (.tmp 1) ⟩, ⟨ some 13, some (10, true), .lenS true (.tmp 12) ⟩, ⟨ some 14, some (10, true), .slS (.tmp 11) none (some (.tmp 13)) ⟩, ⟨ some 15, some (10, true), .mv (.tmp 1) ⟩, ⟨ some 16, some (10, true), .bin .eql (.tmp 14) (.tmp 15) ⟩, ⟨ some 17, none, .pick (.tmp 10) (.tmp 16) (.const (.bool false)) ⟩, ⟨ some 4, none, .mv (.tmp 17) ⟩]) .ret)
theorem k120 : compF Tryd.prog Tryd.f120 = some (c120, [4]) := by kernel_rfl
theorem n120 : Tryd.f120.ntmps = 18 := by kernel_rfl
def c141 : AC := .seq (.ops [⟨ some 4, none, .mv (.const (.string ⟨ ⟨[] ⟩ ⟩)) ⟩]) (.seq (.seq (.ops [⟨ some 5, none, .mv (.tmp 0) ⟩, ⟨ some 6, none, .mv (.tmp 1) ⟩, ⟨ some 7, none, .call 120 [.tmp 5, .tmp 6] ⟩]) (.cond (.tmp 7) (.seq (.ops [⟨ some 8, none, .mv (.tmp 0) ⟩, ⟨ some 9, none, .mv (.tmp 1) ⟩, ⟨ some 10, none, .lenS true (.tmp 9) ⟩, ⟨ some 11, none, .slS (.tmp 8) (some (.tmp 10)) none ⟩, ⟨ some 4, none, .mv (.tmp 11) ⟩]) .ret) .skip)) (.seq (.ops [⟨ some 12, none, .mv (.tmp 0) ⟩, ⟨ some 4, none, .mv (.tmp 12) ⟩]) .ret))
theorem k141 : compF Tryd.prog Tryd.f141 = some (c141, [4]) := by kernel_rfl
theorem n141 : Tryd.f141.ntmps = 13 := by kernel_rfl
def c118 : AC := .seq (.ops [⟨ some 4, none, .mv (.const (.string ⟨ ⟨[] ⟩ ⟩)) ⟩]) (.seq (.ops [⟨ some 5, none, .mv (.tmp 0) ⟩, ⟨ some 6, none, .mv (.tmp 1) ⟩, ⟨ some 7, none, .call 141 [.tmp 5, .tmp 6] ⟩, ⟨ some 4, none, .mv (.tmp 7) ⟩]) .ret)
theorem k118 : compF Tryd.prog Tryd.f118 = some (c118, [4]) := by kernel_rfl
theorem n118 : Tryd.f118.ntmps = 8 := by kernel_rfl
def c110_0 : AC := .seq (.seq (.ops [⟨ some 10, none, .mv (.tmp 4) ⟩, ⟨ some 11, none, .lenS true (.tmp 10) ⟩, ⟨ some 12, none, .bin .gtr (.tmp 11) (.const (.int .i64 1)) ⟩]) (.cond (.tmp 12) .skip (.exit 0))) (.seq (.block 1 (.seq (.draw [([⟨ some 15, none, .mv (.tmp 4) ⟩, ⟨ some 16, none, .iStr (.tmp 15) (.const (.int .i64 0)) ⟩, ⟨ some 18, none, .mv (.tmp 4) ⟩, ⟨ some 19, none, .iStr (.tmp 18) (.const (.int .i64 1)) ⟩], [⟨ some 17, none, .call 119 [.const (.string ⟨ ⟨[48, 49, 50, 51, 52, 53, 54, 55, 56, 57, 97, 98, 99, 100, 101, 102] ⟩ ⟩), .tmp 16] ⟩], []), ([], [⟨ some 20, none, .call 119 [.const (.string ⟨ ⟨[48, 49, 50, 51, 52, 53, 54, 55, 56, 57, 97, 98, 99, 100, 101, 102] ⟩ ⟩), .tmp 19] ⟩], []), ([⟨ some 6, none, .mv (.tmp 17) ⟩, ⟨ some 7, none, .mv (.tmp 20) ⟩], [], [])]) (.seq (.seq (.ops [⟨ some 21, none, .mv (.tmp 6) ⟩, ⟨ some 22, none, .bin .lss (.tmp 21) (.const (.int .i64 0)) ⟩, ⟨ some 23, none, .mv (.tmp 22) ⟩, ⟨ some 24, some (23, false), .mv (.tmp 7) ⟩, ⟨ some 25, some (23, false), .bin .lss (.tmp 24) (.const (.int .i64 0)) ⟩, ⟨ some 26, none, .pick (.tmp 23) (.const (.bool true)) (.tmp 25) ⟩]) (.cond (.tmp 26) (.seq (.ops [⟨ some 2, none, .mv (.const (.string ⟨ ⟨[] ⟩ ⟩)) ⟩, ⟨ some 3, none, .mv (.const (.bool false)) ⟩]) .ret) .skip)) (.ops [⟨ some 27, none, .mv (.tmp 5) ⟩, ⟨ some 28, none, .mv (.tmp 6) ⟩, ⟨ some 29, none, .bin .shl (.tmp 28) (.const (.int .u64 4)) ⟩, ⟨ some 30, none, .mv (.tmp 7) ⟩, ⟨ some 31, none, .bin .or (.tmp 29) (.tmp 30) ⟩, ⟨ some 32, none, .toInt .u8 (.tmp 31) ⟩, ⟨ some 33, none, .buildS 1 [.int .u8 0] [(0, 1, .tmp 32)] ⟩, ⟨ some 34, none, .app 1 1 5 (.tmp 27) (.tmp 33) ⟩, ⟨ some 5, none, .mv (.tmp 34) ⟩])))) (.ops [⟨ some 13, none, .mv (.tmp 4) ⟩, ⟨ some 14, none, .slS (.tmp 13) (some (.const (.int .i64 2))) none ⟩, ⟨ some 4, none, .mv (.tmp 14) ⟩]))
def c110 : AC := .seq (.ops [⟨ some 2, none, .mv (.const (.string ⟨ ⟨[] ⟩ ⟩)) ⟩, ⟨ some 3, none, .mv (.const (.bool false)) ⟩]) (.seq (.ops [⟨ some 8, none, .mv (.tmp 0) ⟩, ⟨ some 9, none, .call 118 [.tmp 8, .const (.string ⟨ ⟨[61] ⟩ ⟩)] ⟩, ⟨ some 4, none, .mv (.tmp 9) ⟩]) (.seq (.ops [⟨ some 5, none, .mv (.const (.slice none 0 0)) ⟩]) (.seq (.block 0 (.loop c110_0)) (.seq (.ops [⟨ some 35, none, .mv (.tmp 5) ⟩, ⟨ some 36, none, .toStr (.tmp 35) ⟩, ⟨ some 37, none, .mv (.tmp 4) ⟩, ⟨ some 38, none, .bin .eql (.tmp 37) (.const (.string ⟨ ⟨[] ⟩ ⟩)) ⟩, ⟨ some 2, none, .mv (.tmp 36) ⟩, ⟨ some 3, none, .mv (.tmp 38) ⟩]) .ret))))
theorem k110 : compF Tryd.prog Tryd.f110 = some (c110, [2, 3]) := by kernel_rfl
theorem n110 : Tryd.f110.ntmps = 39 := by kernel_rfl
/-! a word's text -/
theorem ixb_ok (l : List UInt8) (c : UInt8) (h : Heap) : ACalls Tryd.prog 119 [.string (bs l), .int .u8 (c.toNat : Int)] h fun v h' => v = .int .i64 (match idx1 c l with | some i => (i : Int) | none => -1) ∧ h' = h := by
  refine acalls_of mix Tryd.func119 k119 n119 (by simp) fun hcl hb => ?_
  simp [c119]
  refine (iby_ok l c h).mono ?_
  rintro _ h9 ⟨rfl, rfl⟩
  simp
  cases idx1 c l <;> rfl
def trim1 (c : UInt8) : List UInt8 → List UInt8
  | [] => []
  | x :: r => if x = c then r else x :: r
theorem hasP1_ok (l : List UInt8) (c : UInt8) (h : Heap) : ACalls Tryd.prog 120 [.string (bs l), .string (bs [c])] h fun v h' => v = .bool (decide (l.head? = some c)) ∧ h' = h := by
  refine acalls_of mix Tryd.func120 k120 n120 (by simp) fun hcl hb => ?_
  have hs1 : (bs [c]).size = 1 := rfl
  cases l with
  | nil =>
    have h0 : (bs []).size = 0 := rfl
    simp [c120, hs1, h0]
  | cons x r =>
    have b1 : abounds (bs (x :: r)).size (bs (x :: r)).size none (some (.int .i64 ((1 : Nat) : Int))) none = some (0, 1, (bs (x :: r)).size) := abounds_hi (by rw [bs_size]; simp)
    have x1 : (bs (x :: r)).extract 0 1 = bs [x] := by rw [bs_extract]; rfl
    have hs2 : (bs (x :: r)).size = r.length + 1 := by rw [bs_size]; rfl
    have he : decide (bs [x] = bs [c]) = decide (x = c) := by rw [bs_eq_dec]; simp
    rw [hs2] at b1
    have b1' : abounds (r.length + 1) (r.length + 1) none (some (.int .i64 1)) none = some (0, 1, r.length + 1) := b1
    have hge : (1 : Int) ≤ (r.length : Int) + 1 := by omega
    simp [c120, hs1, hs2, hge, b1', x1, he]
theorem trim1_ok (l : List UInt8) (c : UInt8) (h : Heap) : ACalls Tryd.prog 118 [.string (bs l), .string (bs [c])] h fun v h' => v = sv (trim1 c l) ∧ h' = h := by
  refine acalls_of mix Tryd.func118 k118 n118 (by simp) fun hcl hb => ?_
  simp [c118]
  refine ACalls.mono (R := fun v h' => v = sv (trim1 c l) ∧ h' = h) ?_ ?_
  · refine acalls_of mix Tryd.func141 k141 n141 (by simp) fun hcl hb => ?_
    simp [c141]
    refine (hasP1_ok l c h).mono ?_
    rintro _ h9 ⟨rfl, e⟩
    rw [e]; clear e h9
    have hs1 : (bs [c]).size = 1 := rfl
    cases l with
    | nil => simp; rfl
    | cons x r =>
      have hs2 : (bs (x :: r)).size = r.length + 1 := by rw [bs_size]; rfl
      by_cases hx : x = c
      · have b1 : abounds (r.length + 1) (r.length + 1) (some (.int .i64 1)) none none = some (1, r.length + 1, r.length + 1) := abounds_lo (l := 1) (by omega) (Nat.le_refl _)
        have x1 : (bs (x :: r)).extract 1 (r.length + 1) = bs r := by rw [bs_extract, List.take_of_length_le (by simp)]; rfl
        subst hx
        simp [hs1, hs2, b1, x1, trim1]
        rfl
      · simp [hx, trim1]
        rfl
  · rintro v h' ⟨rfl, rfl⟩
    simp
theorem idx1_lt {c : UInt8} {l : List UInt8} {i : Nat} (h : idx1 c l = some i) : i < l.length := by
  obtain ⟨a, b, rfl, _, rfl⟩ := idx1_some h
  simp
theorem idx_dg (u : Nat) (h : u < 16) : idx1 (dg u) digs = some u := by
  have : ∀ j : Fin 16, idx1 (dg j.val) digs = some j.val := by decide
  exact this ⟨u, h⟩
theorem orl (i j : Nat) (hi : i < 16) (hj : j < 16) : IntKind.u8.wrap (abits .or .i64 (IntKind.i64.wrap ((i : Int) * 16)) j) = ((UInt8.ofNat (16 * i + j)).toNat : Int) := by
  have : ∀ a b : Fin 16, IntKind.u8.wrap (abits .or .i64 (IntKind.i64.wrap ((a.val : Int) * 16)) b.val) = ((UInt8.ofNat (16 * a.val + b.val)).toNat : Int) := by decide
  exact this ⟨i, hi⟩ ⟨j, hj⟩
theorem u8_hl (c : UInt8) : UInt8.ofNat (16 * (c.toNat / 16) + c.toNat % 16) = c := by
  rw [show 16 * (c.toNat / 16) + c.toNat % 16 = c.toNat by omega]
  exact UInt8.ofNat_toNat
/-- a text that a word may have -/
def RB (w : List UInt8) (v : Value) : Prop := (∃ b ok, v = .tuple #[sv b, .bool ok] ∧ b.length ≤ w.length) ∧ ∀ S, w = wordB S → v = .tuple #[sv S, .bool true]
structure YS where
  T : List UInt8
  r : List UInt8
  nm : Option Nat
  v : Value
  H : Heap
theorem lbytes_ok (w : List UInt8) (hw : w.length ≤ 1000000) (h : Heap) : ACalls Tryd.prog 110 [.string (bs w)] h fun v h' => RB w v ∧ h' = h := by
  refine ACalls.same' (R := RB w) (fun v hv => ?_) (acalls_of mix Tryd.func110 k110 n110 (by simp) fun hcl hb => ?_)
  · obtain ⟨⟨b, ok, rfl, _⟩, _⟩ := hv
    exact vb_tup2 .string .bool
  simp only [c110, s_seq, s_ops]
  simp [bs_lit]
  refine (trim1_ok w 61 h).mono ?_
  rintro _ h9 ⟨rfl, e⟩
  rw [e]; clear e h9
  have htl : (trim1 61 w).length ≤ w.length := by cases w with
    | nil => simp [trim1]
    | cons x r => by_cases hx : x = 61 <;> simp [trim1, hx]
  have htw : ∀ S, w = wordB S → trim1 61 w = hexB S := fun S e => by rw [e]; simp [wordB, trim1]
  simp
  refine awp_loop_of (α := YS) (fun z => 2 * z.T.length + z.r.length ≤ w.length ∧ (∀ S, w = wordB S → ∃ S2, S = z.T ++ S2 ∧ z.r = hexB S2) ∧ LAt z.H 1 z.nm z.v z.T.length (ubs z.T) ∧ Gr h z.H ∧ ∀ x, z.nm = some x → h.n ≤ x)
    (fun z => [(4, sv z.r), (5, z.v)]) (fun z => z.H) (fun z => z.r.length) ⟨[], trim1 61 w, none, .slice none 0 0, h⟩
    ⟨by simpa using htl, fun S e => ⟨S, rfl, htw S e⟩, .inl ⟨rfl, rfl, rfl, rfl⟩, ⟨Nat.le_refl _, hcl, fun _ _ e => e⟩, fun x e => by cases e⟩ (Heap.Sub.refl hcl) (by simp; exact ⟨.string, .snil⟩) ?_
  rintro ⟨T, r, nm, v, H⟩ ⟨hlen, hS, hl, hg, hnm⟩
  dsimp only at hlen hS hl hg hnm ⊢
  have hsr : (bs r).size = r.length := bs_size r
  match r, hlen, hS, hsr with
  | [], hlen, hS, hsr =>
    rcases lat_str hl with ⟨rfl, rfl⟩ | ⟨x, rfl, hfs⟩
    · simp [c110_0, sv, hsr]
      exact ⟨⟨⟨[], true, rfl, Nat.zero_le _⟩, fun S e => by
        obtain ⟨S2, h1, h2⟩ := hS S e
        have : S2 = [] := by
          have := congrArg List.length h2
          rw [hexB_len] at this
          exact List.length_eq_zero_iff.1 (by simp at this; omega)
        rw [h1, this]; rfl⟩, hg.n, hg.m⟩
    · simp [c110_0, sv, hsr, hfs, abytes_ubs]
      exact ⟨⟨⟨T, true, rfl, by simp at hlen; omega⟩, fun S e => by
        obtain ⟨S2, h1, h2⟩ := hS S e
        have : S2 = [] := by
          have := congrArg List.length h2
          rw [hexB_len] at this
          exact List.length_eq_zero_iff.1 (by simp at this; omega)
        rw [h1, this, List.append_nil]; rfl⟩, hg.n, hg.m⟩
  | [x], hlen, hS, hsr =>
    have hne : ¬ bs [x] = bs [] := fun q => by have := bs_inj.1 q; cases this
    have nog : ∀ S, w ≠ wordB S := fun S e => by
      obtain ⟨S2, h1, h2⟩ := hS S e
      have := congrArg List.length h2
      rw [hexB_len] at this
      simp at this; omega
    rcases lat_str hl with ⟨rfl, rfl⟩ | ⟨x, rfl, hfs⟩
    · simp [c110_0, sv, hsr, bs_lit, hne]
      exact ⟨⟨⟨[], false, rfl, Nat.zero_le _⟩, fun S e => absurd e (nog S)⟩, hg.n, hg.m⟩
    · simp [c110_0, sv, hsr, hfs, abytes_ubs, bs_lit, hne]
      exact ⟨⟨⟨T, false, rfl, by simp at hlen; omega⟩, fun S e => absurd e (nog S)⟩, hg.n, hg.m⟩
  | x :: y :: r, hlen, hS, hsr =>
    have h2 : (1 : Int) < (r.length : Int) + 1 + 1 := by omega
    have hsr' : (bs (x :: y :: r)).size = r.length + 1 + 1 := by rw [hsr]; rfl
    have hdd : (bs (x :: y :: r)).data.toList = x :: y :: r := bs_data _
    have i0 : aidx (.int .i64 0) (r.length + 1 + 1) = some 0 := aidx_of (i := 0) (by omega)
    have i1 : aidx (.int .i64 1) (r.length + 1 + 1) = some 1 := aidx_of (i := 1) (by omega)
    have hcd : (⟨⟨[48, 49, 50, 51, 52, 53, 54, 55, 56, 57, 97, 98, 99, 100, 101, 102]⟩⟩ : ByteArray) = bs digs := rfl
    have hcd' : bs [48, 49, 50, 51, 52, 53, 54, 55, 56, 57, 97, 98, 99, 100, 101, 102] = bs digs := rfl
    obtain ⟨a, rfl⟩ := hl.form
    have hbad : (∀ S, w ≠ wordB S) → RB w (.tuple #[sv [], .bool false]) := fun hn => ⟨⟨[], false, rfl, Nat.zero_le _⟩, fun S e => absurd e (hn S)⟩
    have hxy : ∀ S, w = wordB S → ∃ c S3, x = dg (UInt8.toNat c / 16) ∧ y = dg (UInt8.toNat c % 16) ∧ r = hexB S3 ∧ S = T ++ c :: S3 := fun S e => by
      obtain ⟨S2, h1, h2⟩ := hS S e
      cases S2 with
      | nil => cases h2
      | cons c S3 =>
        have : hexB (c :: S3) = dg (c.toNat / 16) :: dg (c.toNat % 16) :: hexB S3 := rfl
        rw [this] at h2
        simp only [List.cons.injEq] at h2
        exact ⟨c, S3, h2.1, h2.2.1, h2.2.2, h1⟩
    have hix : ∀ c : UInt8, c.toNat / 16 < 16 ∧ c.toNat % 16 < 16 := fun c => by have := c.toNat_lt; omega
    simp [c110_0, sv, hsr', h2, i0, i1, hdd, hcd]
    refine (ixb_ok digs x H).mono ?_
    rintro _ h9 ⟨rfl, e⟩
    rw [e]; clear e h9
    simp
    refine (ixb_ok digs y H).mono ?_
    rintro _ h9 ⟨rfl, e⟩
    rw [e]; clear e h9
    cases hx : idx1 x digs with
    | none =>
      simp [bs_lit]
      exact ⟨hbad (fun S e => by
        obtain ⟨c, S3, hx1, _⟩ := hxy S e
        rw [hx1, idx_dg _ (hix c).1] at hx; cases hx), hg.n, hg.m⟩
    | some i =>
      have hi0 : ¬ (i : Int) < 0 := by omega
      cases hy : idx1 y digs with
      | none =>
        simp [bs_lit, hi0]
        exact ⟨hbad (fun S e => by
          obtain ⟨c, S3, _, hy1, _⟩ := hxy S e
          rw [hy1, idx_dg _ (hix c).2] at hy; cases hy), hg.n, hg.m⟩
      | some j =>
        have hj0 : ¬ (j : Int) < 0 := by omega
        have hi16 : i < 16 := idx1_lt hx
        have hj16 : j < 16 := idx1_lt hy
        have ho := orl i j hi16 hj16
        have b64 : IntKind.i64.bits = 64 := rfl
        obtain ⟨a', he, v2, H2, happ, l2, keep2, n3, c3⟩ := lat_bytes hg.cl hl [UInt8.ofNat (16 * i + j)] (by simp) (by simp at hlen ⊢; omega)
        cases he
        have fil2 : ∀ z, afill [.int .u8 0] [(0, 1, .int .u8 ((UInt8.toNat z : Nat) : Int))] = some (ubs [z]) := fun _ => rfl
        have hfst : ∀ z, afirst (H.push (.cells (ubs [z]) .ex 1)) 1 1 (.slice (some ⟨H.n, 0, none⟩) 1 1) = some (ubs [z]) := fun z => by
          simp only [afirst, cellsOf_new, if_true]
          rfl
        have hlw : [UInt8.ofNat (16 * i + j)].length = 1 := rfl
        have b1 : abounds (r.length + 1 + 1) (r.length + 1 + 1) (some (.int .i64 2)) none none = some (2, r.length + 1 + 1, r.length + 1 + 1) := abounds_lo (l := 2) (by omega) (Nat.le_refl _)
        have x1 : (bs (x :: y :: r)).extract 2 (r.length + 1 + 1) = bs r := by rw [bs_extract, List.take_of_length_le (by simp)]; rfl
        rw [hlw] at happ
        generalize hz : UInt8.ofNat (16 * i + j) = z at *
        simp [bs_lit, hi0, hj0, b64, ho, fil2, hfst, happ, alen, hsr', b1, x1]
        refine ⟨⟨T ++ [z], r, some (H.n + 1), v2, H2⟩, by show r.length < (x :: y :: r).length; simp, ⟨by show 2 * (T ++ [z]).length + r.length ≤ w.length; simp at hlen ⊢; omega, fun S e => ?_, l2, ⟨by have := hg.n; show h.n ≤ H2.n; omega, c3, fun yy ob e => keep2 yy ob (hg.m yy ob e) (fun q => by have := hnm yy q; have := (hcl yy ob e).1; omega)⟩, fun xx e => by cases e; have := hg.n; show h.n ≤ H.n + 1; omega⟩, ⟨by have := hg.n; show h.n ≤ H2.n; omega, Nat.le_refl _, fun _ _ e => e, c3⟩, ⟨rfl, .string⟩, rfl, l2.below c3⟩
        obtain ⟨c, S3, hx1, hy1, hr1, hS1⟩ := hxy S e
        rw [hx1, idx_dg _ (hix c).1] at hx
        rw [hy1, idx_dg _ (hix c).2] at hy
        cases hx
        cases hy
        rw [u8_hl] at hz
        subst hz
        exact ⟨S3, by show S = (T ++ [c]) ++ S3; rw [hS1]; simp, hr1⟩
end Go.Proofs.YtpcnpnddkgdaeaaDoor.lin1
