/-
  Contracts.
-/
import Derived.Test.YtpcnpnddkgdaeaaDoorVers
import Derived.Test.YtpcnpnddkgdaeaaDoorStr
import Derived.Test.YtpcnpnddkgdaeaaDoorAbEnter
import Derived.Test.YtpcnpnddkgdaeaaDoorAbStep
import Derived.Test.YtpcnpnddkgdaeaaDoorProg
import Derived.IntWalk
import Derived.KernelRfl
set_option linter.unusedSimpArgs false
set_option linter.unusedVariables false
set_option linter.unusedSectionVars false
namespace Go.Proofs.YtpcnpnddkgdaeaaDoor.vero
open Go Go.Ab Go.Proofs Go.RowKit Go.Proofs.YtpcnpnddkgdaeaaDoor.str Go.Proofs.YtpcnpnddkgdaeaaDoor.vers
variable [Inhabited TabBox]
variable [Nonempty GF]
set_option maxRecDepth 100000
attribute [local simp] s_ops s_seq s_cond s_cond_t s_cond_f s_block s_exit s_ret s_skip s_then_n s_then_n' s_then_e s_then_e' s_then_r s_then_r' s_block_n s_block_r s_block_e s_post_r s_post_n s_res0 s_res1 s_res2 s_res3 s_res4 s_nil s_cons s_guard s_guard_tt s_guard_ff s_guard_tf s_guard_ft s_guard_u s_call s_kL s_put s_put0 s_set s_tmp s_const s_func s_glob s_init s_mkF s_mkF0 s_mv s_bin s_pick s_op aop oK_some oK_none bK_some bK_none b_add b_sub b_mul b_quo b_rem b_and b_or b_xor b_andNot b_shl b_shr b_eql b_neq b_lss b_leq b_gtr b_geq b_sadd b_seql b_sneq b_slss b_sleq b_sgtr b_sgeq s_draw s_drawT s_tK s_tT s_tF s_tB s_tR s_stage s_stage0 s_kW s_kR s_rc0 s_rc s_rcg rK_some rK_none rG_b rG_u s_callv s_callv_f s_nextM s_postR_r s_postR_n s_resA0 s_resAt s_resAc s_resC s_tup0 s_tup1 s_tup2 s_tup3
def c86 : AC := .seq (.ops [⟨ some 2, none, .mv (.const (.bool false)) ⟩]) (.seq (.ops [⟨ some 3, none, .mv (.tmp 0) ⟩, ⟨ some 4, none, .mv (.tmp 0) ⟩, ⟨ some 5, none, .bin .neq (.tmp 3) (.tmp 4) ⟩, ⟨ some 2, none, .mv (.tmp 5) ⟩]) .ret)
theorem k86 : compF Tryd.prog Tryd.f86 = some (c86, [2]) := by kernel_rfl
theorem n86 : Tryd.f86.ntmps = 6 := by kernel_rfl
def c58 : AC := .seq (.ops [⟨ some 4, none, .mv (.const (.int .i64 0)) ⟩]) (.seq (.ops [⟨ some 7, none, .mv (.tmp 0) ⟩, ⟨ some 8, none, .call 86 [.tmp 7] ⟩, ⟨ some 5, none, .mv (.tmp 8) ⟩]) (.seq (.ops [⟨ some 9, none, .mv (.tmp 1) ⟩, ⟨ some 10, none, .call 86 [.tmp 9] ⟩, ⟨ some 6, none, .mv (.tmp 10) ⟩]) (.seq (.seq (.ops [⟨ some 11, none, .mv (.tmp 5) ⟩]) (.cond (.tmp 11) (.seq (.seq (.ops [⟨ some 12, none, .mv (.tmp 6) ⟩]) (.cond (.tmp 12) (.seq (.ops [⟨ some 4, none, .mv (.const (.int .i64 0)) ⟩]) .ret) .skip)) (.seq (.ops [⟨ some 4, none, .mv (.const (.int .i64 (-1))) ⟩]) .ret)) .skip)) (.seq (.seq (.ops [⟨ some 13, none, .mv (.tmp 6) ⟩]) (.cond (.tmp 13) (.seq (.ops [⟨ some 4, none, .mv (.const (.int .i64 1)) ⟩]) .ret) .skip)) (.seq (.seq (.ops [⟨ some 14, none, .mv (.tmp 0) ⟩, ⟨ some 15, none, .mv (.tmp 1) ⟩, ⟨ some 16, none, .bin .lss (.tmp 14) (.tmp 15) ⟩]) (.cond (.tmp 16) (.seq (.ops [⟨ some 4, none, .mv (.const (.int .i64 (-1))) ⟩]) .ret) .skip)) (.seq (.seq (.ops [⟨ some 17, none, .mv (.tmp 0) ⟩, ⟨ some 18, none, .mv (.tmp 1) ⟩, ⟨ some 19, none, .bin .gtr (.tmp 17) (.tmp 18) ⟩]) (.cond (.tmp 19) (.seq (.ops [⟨ some 4, none, .mv (.const (.int .i64 1)) ⟩]) .ret) .skip)) (.seq (.ops [⟨ some 4, none, .mv (.const (.int .i64 0)) ⟩]) .ret)))))))
theorem k58 : compF Tryd.prog Tryd.f58 = some (c58, [4]) := by kernel_rfl
theorem n58 : Tryd.f58.ntmps = 20 := by kernel_rfl
def c24 : AC := .seq (.ops [⟨ some 2, none, .box (.tmp 0) ⟩, ⟨ some 3, none, .box (.tmp 1) ⟩, ⟨ some 4, none, .mv (.const (.bool false)) ⟩]) (.seq (.seq (.ops [⟨ some 5, none, .iAddrA 3 1 (.tmp 2) (.const (.int .i64 0)) ⟩, ⟨ some 6, none, .load none (.tmp 5) ⟩, ⟨ some 7, none, .iAddrA 3 1 (.tmp 3) (.const (.int .i64 0)) ⟩, ⟨ some 8, none, .load none (.tmp 7) ⟩, ⟨ some 9, none, .bin .neq (.tmp 6) (.tmp 8) ⟩]) (.cond (.tmp 9) (.seq (.ops [⟨ some 10, none, .iAddrA 3 1 (.tmp 2) (.const (.int .i64 0)) ⟩, ⟨ some 11, none, .load none (.tmp 10) ⟩, ⟨ some 12, none, .iAddrA 3 1 (.tmp 3) (.const (.int .i64 0)) ⟩, ⟨ some 13, none, .load none (.tmp 12) ⟩, ⟨ some 14, none, .bin .lss (.tmp 11) (.tmp 13) ⟩, ⟨ some 4, none, .mv (.tmp 14) ⟩]) .ret) .skip)) (.seq (.seq (.ops [⟨ some 15, none, .iAddrA 3 1 (.tmp 2) (.const (.int .i64 1)) ⟩, ⟨ some 16, none, .load none (.tmp 15) ⟩, ⟨ some 17, none, .iAddrA 3 1 (.tmp 3) (.const (.int .i64 1)) ⟩, ⟨ some 18, none, .load none (.tmp 17) ⟩, ⟨ some 19, none, .bin .neq (.tmp 16) (.tmp 18) ⟩]) (.cond (.tmp 19) (.seq (.ops [⟨ some 20, none, .iAddrA 3 1 (.tmp 2) (.const (.int .i64 1)) ⟩, ⟨ some 21, none, .load none (.tmp 20) ⟩, ⟨ some 22, none, .iAddrA 3 1 (.tmp 3) (.const (.int .i64 1)) ⟩, ⟨ some 23, none, .load none (.tmp 22) ⟩, ⟨ some 24, none, .bin .lss (.tmp 21) (.tmp 23) ⟩, ⟨ some 4, none, .mv (.tmp 24) ⟩]) .ret) .skip)) (.seq (.ops [⟨ some 25, none, .iAddrA 3 1 (.tmp 2) (.const (.int .i64 2)) ⟩, ⟨ some 26, none, .load none (.tmp 25) ⟩, ⟨ some 27, none, .iAddrA 3 1 (.tmp 3) (.const (.int .i64 2)) ⟩, ⟨ some 28, none, .load none (.tmp 27) ⟩, ⟨ some 29, none, .bin .lss (.tmp 26) (.tmp 28) ⟩, ⟨ some 4, none, .mv (.tmp 29) ⟩]) .ret)))
theorem k24 : compF Tryd.prog Tryd.f24 = some (c24, [4]) := by kernel_rfl
theorem n24 : Tryd.f24.ntmps = 30 := by kernel_rfl
def c26_0 : AC := .seq (.ops [⟨ some 8, none, .bin .lss (.tmp 7) (.const (.int .i64 3)) ⟩]) (.seq (.cond (.tmp 8) .skip (.exit 0)) (.seq (.block 1 (.seq (.ops [⟨ some 9, none, .mv (.tmp 7) ⟩, ⟨ some 5, none, .mv (.tmp 9) ⟩]) (.seq (.draw [([⟨ some 10, none, .mv (.tmp 5) ⟩, ⟨ some 11, none, .iAddrA 3 1 (.tmp 2) (.tmp 10) ⟩, ⟨ some 12, none, .load none (.tmp 11) ⟩, ⟨ some 13, none, .mv (.tmp 5) ⟩, ⟨ some 14, none, .iAddrA 3 1 (.tmp 3) (.tmp 13) ⟩, ⟨ some 15, none, .load none (.tmp 14) ⟩], [⟨ some 16, none, .call 58 [.tmp 12, .tmp 15] ⟩], []), ([⟨ some 6, none, .mv (.tmp 16) ⟩], [], [])]) (.seq (.ops [⟨ some 17, none, .mv (.tmp 6) ⟩, ⟨ some 18, none, .bin .neq (.tmp 17) (.const (.int .i64 0)) ⟩]) (.cond (.tmp 18) (.seq (.ops [⟨ some 19, none, .mv (.tmp 6) ⟩, ⟨ some 4, none, .mv (.tmp 19) ⟩]) .ret) .skip))))) (.ops [⟨ some 20, none, .bin .add (.tmp 7) (.const (.int .i64 1)) ⟩, ⟨ some 7, none, .mv (.tmp 20) ⟩])))
def c26 : AC := .seq (.ops [⟨ some 2, none, .box (.tmp 0) ⟩, ⟨ some 3, none, .box (.tmp 1) ⟩, ⟨ some 4, none, .mv (.const (.int .i64 0)) ⟩]) (.seq (.seq (.ops [⟨ some 7, none, .mv (.const (.int .i64 0)) ⟩]) (.block 0 (.loop c26_0))) (.seq (.ops [⟨ some 4, none, .mv (.const (.int .i64 0)) ⟩]) .ret))
theorem k26 : compF Tryd.prog Tryd.f26 = some (c26, [4]) := by kernel_rfl
theorem n26 : Tryd.f26.ntmps = 21 := by kernel_rfl
def c25_0 : AC := .seq (.ops [⟨ some 17, none, .bin .lss (.tmp 16) (.tmp 15) ⟩]) (.seq (.cond (.tmp 17) .skip (.exit 0)) (.seq (.block 1 (.seq (.ops [⟨ some 18, none, .iAddrS 3 (.tmp 14) (.tmp 16) ⟩, ⟨ some 19, none, .load (some 3) (.tmp 18) ⟩, ⟨ some 6, none, .alloc [.int .i64 0, .int .i64 0, .int .i64 0] ⟩, ⟨ none, none, .store 3 (.tmp 6) (.tmp 19) ⟩]) (.seq (.ops [⟨ some 20, none, .load (some 3) (.tmp 6) ⟩, ⟨ some 21, none, .load (some 3) (.tmp 4) ⟩, ⟨ some 22, none, .call 26 [.tmp 20, .tmp 21] ⟩, ⟨ some 23, none, .bin .gtr (.tmp 22) (.const (.int .i64 0)) ⟩]) (.cond (.tmp 23) (.ops [⟨ some 24, none, .load (some 3) (.tmp 6) ⟩, ⟨ none, none, .store 3 (.tmp 4) (.tmp 24) ⟩]) .skip)))) (.ops [⟨ some 25, none, .bin .add (.tmp 16) (.const (.int .i64 1)) ⟩, ⟨ some 16, none, .mv (.tmp 25) ⟩])))
def c25 : AC := .seq (.ops [⟨ some 2, none, .alloc [.int .i64 0, .int .i64 0, .int .i64 0] ⟩, ⟨ some 3, none, .mv (.const (.bool false)) ⟩]) (.seq (.seq (.ops [⟨ some 7, none, .mv (.tmp 0) ⟩, ⟨ some 8, none, .lenS false (.tmp 7) ⟩, ⟨ some 9, none, .bin .eql (.tmp 8) (.const (.int .i64 0)) ⟩]) (.cond (.tmp 9) (.seq (.ops [⟨ some 10, none, .build [.int .i64 0, .int .i64 0, .int .i64 0] [] ⟩, ⟨ none, none, .store 3 (.tmp 2) (.tmp 10) ⟩, ⟨ some 3, none, .mv (.const (.bool false)) ⟩]) .ret) .skip)) (.seq (.ops [⟨ some 11, none, .mv (.tmp 0) ⟩, ⟨ some 12, none, .iAddrS 3 (.tmp 11) (.const (.int .i64 0)) ⟩, ⟨ some 13, none, .load (some 3) (.tmp 12) ⟩, ⟨ some 4, none, .alloc [.int .i64 0, .int .i64 0, .int .i64 0] ⟩, ⟨ none, none, .store 3 (.tmp 4) (.tmp 13) ⟩]) (.seq (.seq (.ops [⟨ some 14, none, .mv (.tmp 0) ⟩, ⟨ some 15, none, .lenS false (.tmp 14) ⟩, ⟨ some 16, none, .mv (.const (.int .i64 0)) ⟩]) (.block 0 (.loop c25_0))) (.seq (.ops [⟨ some 26, none, .load (some 3) (.tmp 4) ⟩, ⟨ none, none, .store 3 (.tmp 2) (.tmp 26) ⟩, ⟨ some 3, none, .mv (.const (.bool true)) ⟩]) .ret))))
theorem k25 : compR Tryd.prog Tryd.f25 = some (c25, [.c 2 (some 3), .t 3]) := by kernel_rfl
theorem n25 : Tryd.f25.ntmps = 27 := by kernel_rfl
def c5_0 : AC := .seq (.ops [⟨ some 32, none, .bin .lss (.tmp 31) (.tmp 30) ⟩]) (.seq (.cond (.tmp 32) .skip (.exit 0)) (.seq (.block 1 (.seq (.ops [⟨ some 33, none, .iAddrS 3 (.tmp 29) (.tmp 31) ⟩, ⟨ some 34, none, .load (some 3) (.tmp 33) ⟩, ⟨ some 12, none, .alloc [.int .i64 0, .int .i64 0, .int .i64 0] ⟩, ⟨ none, none, .store 3 (.tmp 12) (.tmp 34) ⟩]) (.seq (.ops [⟨ some 35, none, .mv (.tmp 10) ⟩, ⟨ some 36, none, .mv (.tmp 35) ⟩, ⟨ some 37, some (36, false), .load (some 3) (.tmp 12) ⟩, ⟨ some 38, some (36, false), .load (some 3) (.tmp 8) ⟩, ⟨ some 39, some (36, false), .eqa false [.i, .i, .i] (.tmp 37) (.tmp 38) ⟩, ⟨ some 40, none, .pick (.tmp 36) (.const (.bool true)) (.tmp 39) ⟩, ⟨ some 10, none, .mv (.tmp 40) ⟩]) (.seq (.ops [⟨ some 41, none, .load (some 3) (.tmp 8) ⟩, ⟨ some 42, none, .load (some 3) (.tmp 12) ⟩, ⟨ some 43, none, .call 24 [.tmp 41, .tmp 42] ⟩]) (.cond (.tmp 43) (.seq (.ops [⟨ some 6, none, .mv (.const (.bool false)) ⟩]) .ret) .skip))))) (.ops [⟨ some 44, none, .bin .add (.tmp 31) (.const (.int .i64 1)) ⟩, ⟨ some 31, none, .mv (.tmp 44) ⟩])))
def c5 : AC := .seq (.ops [⟨ some 3, none, .box (.tmp 0) ⟩, ⟨ some 4, none, .box (.tmp 1) ⟩, ⟨ some 6, none, .mv (.const (.bool false)) ⟩]) (.seq (.seq (.ops [⟨ some 13, none, .call 17 [] ⟩, ⟨ some 14, none, .un .not (.tmp 13) ⟩]) (.cond (.tmp 14) (.seq (.ops [⟨ some 6, none, .mv (.const (.bool false)) ⟩]) .ret) .skip)) (.seq (.seq (.ops [⟨ some 15, none, .mv (.tmp 2) ⟩, ⟨ some 16, none, .lenS false (.tmp 15) ⟩, ⟨ some 17, none, .bin .gtr (.tmp 16) (.const (.int .i64 60)) ⟩]) (.cond (.tmp 17) (.seq (.ops [⟨ some 6, none, .mv (.const (.bool true)) ⟩]) .ret) .skip)) (.seq (.ops [⟨ some 7, none, .mv (.const (.int .i64 0)) ⟩]) (.seq (.seq (.ops [⟨ some 18, none, .load (some 3) (.tmp 3) ⟩, ⟨ some 19, none, .load (some 3) (.tmp 4) ⟩, ⟨ some 20, none, .call 24 [.tmp 18, .tmp 19] ⟩]) (.cond (.tmp 20) (.ops [⟨ some 7, none, .mv (.const (.int .i64 (-1))) ⟩]) .skip)) (.seq (.seq (.ops [⟨ some 21, none, .load (some 3) (.tmp 4) ⟩, ⟨ some 22, none, .load (some 3) (.tmp 3) ⟩, ⟨ some 23, none, .call 24 [.tmp 21, .tmp 22] ⟩]) (.cond (.tmp 23) (.ops [⟨ some 7, none, .mv (.const (.int .i64 1)) ⟩]) .skip)) (.seq (.ops [⟨ some 25, none, .mv (.tmp 2) ⟩, ⟨ some 26, none, .call 25 [.tmp 25] ⟩, ⟨ some 24, none, .mv (.tmp 26) ⟩, ⟨ some 27, none, .extr (.tmp 24) 0 ⟩, ⟨ some 28, none, .extr (.tmp 24) 1 ⟩, ⟨ some 8, none, .alloc [.int .i64 0, .int .i64 0, .int .i64 0] ⟩, ⟨ none, none, .store 3 (.tmp 8) (.tmp 27) ⟩, ⟨ some 9, none, .mv (.tmp 28) ⟩]) (.seq (.ops [⟨ some 10, none, .mv (.const (.bool false)) ⟩]) (.seq (.seq (.ops [⟨ some 29, none, .mv (.tmp 2) ⟩, ⟨ some 30, none, .lenS false (.tmp 29) ⟩, ⟨ some 31, none, .mv (.const (.int .i64 0)) ⟩]) (.block 0 (.loop c5_0))) (.seq (.ops [⟨ some 45, none, .load (some 3) (.tmp 3) ⟩, ⟨ some 46, none, .load (some 3) (.tmp 4) ⟩, ⟨ some 47, none, .call 26 [.tmp 45, .tmp 46] ⟩, ⟨ some 48, none, .mv (.tmp 7) ⟩, ⟨ some 49, none, .bin .eql (.tmp 47) (.tmp 48) ⟩, ⟨ some 50, none, .mv (.tmp 49) ⟩, ⟨ some 51, some (50, true), .mv (.tmp 9) ⟩, ⟨ some 52, some (50, true), .mv (.tmp 2) ⟩, ⟨ some 53, some (50, true), .lenS false (.tmp 52) ⟩, ⟨ some 54, some (50, true), .bin .gtr (.tmp 53) (.const (.int .i64 0)) ⟩, ⟨ some 55, some (50, true), .eqv false .bool (.tmp 51) (.tmp 54) ⟩, ⟨ some 56, none, .pick (.tmp 50) (.tmp 55) (.const (.bool false)) ⟩, ⟨ some 57, none, .mv (.tmp 56) ⟩, ⟨ some 58, some (57, true), .mv (.tmp 10) ⟩, ⟨ some 59, some (57, true), .mv (.tmp 9) ⟩, ⟨ some 60, some (57, true), .eqv false .bool (.tmp 58) (.tmp 59) ⟩, ⟨ some 61, none, .pick (.tmp 57) (.tmp 60) (.const (.bool false)) ⟩, ⟨ some 62, none, .mv (.tmp 61) ⟩, ⟨ some 63, some (62, true), .mv (.tmp 9) ⟩, ⟨ some 64, some (62, true), .mv (.tmp 63) ⟩, ⟨ some 65, some (64, false), .load (some 3) (.tmp 8) ⟩, ⟨ some 66, some (64, false), .build [.int .i64 0, .int .i64 0, .int .i64 0] [] ⟩, ⟨ some 67, some (64, false), .eqa false [.i, .i, .i] (.tmp 65) (.tmp 66) ⟩, ⟨ some 68, some (62, true), .pick (.tmp 64) (.const (.bool true)) (.tmp 67) ⟩, ⟨ some 69, none, .pick (.tmp 62) (.tmp 68) (.const (.bool false)) ⟩, ⟨ some 6, none, .mv (.tmp 69) ⟩]) .ret)))))))))
theorem k5 : compF Tryd.prog Tryd.f5 = some (c5, [6]) := by kernel_rfl
theorem n5 : Tryd.f5.ntmps = 70 := by kernel_rfl
/-! the order of versions -/
structure V3 where
  a : Int
  b : Int
  c : Int
  deriving DecidableEq
def V3.l (x : V3) : List Value := iv x.a x.b x.c
def vlt (x y : V3) : Prop := x.a < y.a ∨ (x.a = y.a ∧ (x.b < y.b ∨ (x.b = y.b ∧ x.c < y.c)))
instance (x y : V3) : Decidable (vlt x y) := by unfold vlt; infer_instance
def SlV (h : Heap) (v : Value) (L : List V3) : Prop :=
  (∃ c, v = .slice none 0 c ∧ L = []) ∨ ∃ b o cap c m e, v = .slice (some ⟨b, o, none⟩) L.length cap ∧ h.cellsOf b = some (c, m, e) ∧ ∀ i (hi : i < L.length), acut c (o + i * 3) 3 = some L[i].l
theorem slv_of {h : Heap} {v : Value} {L : List (List Int)} (s : SlN .i64 3 h v L) : ∃ L', SlV h v L' ∧ L'.length = L.length := by
  have key : ∀ L : List (List Int), (∀ x ∈ L, x.length = 3) → ∃ L' : List V3, L'.length = L.length ∧ ∀ i (hi : i < L'.length) (hi2 : i < L.length), L'[i].l = L[i].map (Value.int .i64) := by
    intro L
    induction L with
    | nil => intro _; exact ⟨[], rfl, fun i hi => by simp at hi⟩
    | cons x r ih =>
      intro hx
      obtain ⟨L', h1, h2⟩ := ih fun y hy => hx y (by simp [hy])
      have h3 := hx x (by simp)
      match x, h3 with
      | [p, q, s], _ =>
        refine ⟨⟨p, q, s⟩ :: L', by simp [h1], fun i hi hi2 => ?_⟩
        cases i with
        | zero => rfl
        | succ i => exact h2 i (by simpa using hi) (by simpa using hi2)
  rcases s with ⟨c, rfl, rfl⟩ | ⟨b, o, cap, c, m, e, rfl, h1, h2⟩
  · exact ⟨[], .inl ⟨c, rfl, rfl⟩, rfl⟩
  · obtain ⟨L', k1, k2⟩ := key L fun x hx => by
      obtain ⟨i, hi, rfl⟩ := List.mem_iff_getElem.1 hx
      exact (h2 i hi).2
    refine ⟨L', .inr ⟨b, o, cap, c, m, e, by rw [k1], h1, fun i hi => ?_⟩, k1⟩
    rw [k2 i hi (by omega)]
    exact (h2 i (by omega)).1
theorem less_ok (x y : V3) (h : Heap) : ACalls Tryd.prog 24 [.agg x.l.toArray, .agg y.l.toArray] h fun v h' => v = .bool (decide (vlt x y)) ∧ h' = h := by
  obtain ⟨a, b, c⟩ := x
  obtain ⟨a', b', c'⟩ := y
  refine ACalls.same .bool (acalls_of mix Tryd.func24 k24 n24 (by simp) fun hcl hb => ?_)
  have f0 : ((h.push (.cells (iv a b c) .ex 1)).push (.cells (iv a' b' c') .ex 1)).cellsOf h.n = some (iv a b c, .ex, 1) := by rw [cellsOf_ne (by show ¬ h.n = h.n + 1; omega)]; exact cellsOf_new _ _ _ _
  have f1 : ((h.push (.cells (iv a b c) .ex 1)).push (.cells (iv a' b' c') .ex 1)).cellsOf (h.n + 1) = some (iv a' b' c', .ex, 1) := cellsOf_new (h.push (.cells (iv a b c) .ex 1)) _ _ _
  have e0 := ((Heap.Ext.refl h).push hcl (.cells (iv a b c) .ex 1)).push hcl (.cells (iv a' b' c') .ex 1)
  have i0 : aidx (.int .i64 0) 3 = some 0 := rfl
  have i1 : aidx (.int .i64 1) 3 = some 1 := rfl
  have i2 : aidx (.int .i64 2) 3 = some 2 := rfl
  have g0 : ∀ x y z : Int, (iv x y z)[0]? = some (.int .i64 x) := fun _ _ _ => rfl
  have g1 : ∀ x y z : Int, (iv x y z)[1]? = some (.int .i64 y) := fun _ _ _ => rfl
  have g2 : ∀ x y z : Int, (iv x y z)[2]? = some (.int .i64 z) := fun _ _ _ => rfl
  have hl : ∀ x y z, (V3.mk x y z).l = iv x y z := fun _ _ _ => rfl
  have hv : decide (vlt ⟨a, b, c⟩ ⟨a', b', c'⟩) = decide (a < a' ∨ (a = a' ∧ (b < b' ∨ (b = b' ∧ c < c')))) := rfl
  rw [hv]
  by_cases q0 : a = a'
  · subst q0
    by_cases q1 : b = b'
    · subst q1
      simp [c24, hl, mc_iv, f0, f1, i0, i1, i2, g0, g1, g2, apart]
      exact e0
    · simp [c24, hl, mc_iv, f0, f1, i0, i1, i2, g0, g1, g2, apart, q1]
      exact e0
  · simp [c24, hl, mc_iv, f0, f1, i0, i1, i2, g0, g1, g2, apart, q0]
    exact e0
def cmpI (a b : Int) : Int := if a < b then -1 else if b < a then 1 else 0
theorem cmpI_ok (a b : Int) (h : Heap) : ACalls Tryd.prog 58 [.int .i64 a, .int .i64 b] h fun v h' => v = .int .i64 (cmpI a b) ∧ h' = h := by
  have nan : ∀ x : Int, ACalls Tryd.prog 86 [.int .i64 x] h fun v h' => v = .bool false ∧ h' = h := fun x => by
    refine acalls_of mix Tryd.func86 k86 n86 (by simp) fun hcl hb => ?_
    simp [c86]
  refine acalls_of mix Tryd.func58 k58 n58 (by simp) fun hcl hb => ?_
  simp [c58]
  refine (nan a).mono ?_
  rintro _ h9 ⟨rfl, e⟩
  rw [e]; clear e h9
  simp
  refine (nan b).mono ?_
  rintro _ h9 ⟨rfl, e⟩
  rw [e]; clear e h9
  by_cases q0 : a < b
  · simp [q0, cmpI]
  · by_cases q1 : b < a
    · simp [q0, q1, cmpI]
    · simp [q0, q1, cmpI]
def cmpV (x y : V3) : Int := if vlt x y then -1 else if vlt y x then 1 else 0
theorem compareV_ok (x y : V3) (h : Heap) : ACalls Tryd.prog 26 [.agg x.l.toArray, .agg y.l.toArray] h fun v h' => v = .int .i64 (cmpV x y) ∧ h' = h := by
  obtain ⟨a, b, c⟩ := x
  obtain ⟨a', b', c'⟩ := y
  refine ACalls.same .int (acalls_of mix Tryd.func26 k26 n26 (by simp) fun hcl hb => ?_)
  have hl : ∀ x y z, (V3.mk x y z).l = iv x y z := fun _ _ _ => rfl
  have f0 : ((h.push (.cells (iv a b c) .ex 1)).push (.cells (iv a' b' c') .ex 1)).cellsOf h.n = some (iv a b c, .ex, 1) := by rw [cellsOf_ne (by show ¬ h.n = h.n + 1; omega)]; exact cellsOf_new _ _ _ _
  have f1 : ((h.push (.cells (iv a b c) .ex 1)).push (.cells (iv a' b' c') .ex 1)).cellsOf (h.n + 1) = some (iv a' b' c', .ex, 1) := cellsOf_new (h.push (.cells (iv a b c) .ex 1)) _ _ _
  have e0 := ((Heap.Ext.refl h).push hcl (.cells (iv a b c) .ex 1)).push hcl (.cells (iv a' b' c') .ex 1)
  have hc2 : ((h.push (.cells (iv a b c) .ex 1)).push (.cells (iv a' b' c') .ex 1)).Closed := closed_push (closed_push hcl iv_bel) iv_bel
  have n2 : ((h.push (.cells (iv a b c) .ex 1)).push (.cells (iv a' b' c') .ex 1)).n = h.n + 2 := rfl
  simp only [c26, s_seq, s_ops]
  simp [hl, mc_iv]
  generalize (h.push (.cells (iv a b c) .ex 1)).push (.cells (iv a' b' c') .ex 1) = H at *
  refine awp_loop_of (α := Nat) (fun i => i ≤ 3 ∧ (0 < i → a = a') ∧ (1 < i → b = b') ∧ (2 < i → c = c'))
    (fun i => [(2, .pointer (some ⟨h.n, 0, none⟩)), (3, .pointer (some ⟨h.n + 1, 0, none⟩)), (7, .int .i64 i)]) (fun _ => H) (fun i => 3 - i) 0
    ⟨Nat.zero_le _, fun h => absurd h (by omega), fun h => absurd h (by omega), fun h => absurd h (by omega)⟩ ⟨by omega, Nat.le_refl _, fun _ _ e => e, hc2⟩ (by simp; exact ⟨.ptr (by show h.n < H.n; omega), .ptr (by show h.n + 1 < H.n; omega), .int⟩) ?_
  rintro i ⟨hi, h0, h1, h2⟩
  by_cases hi3 : i < 3
  · have hI : i = 0 ∨ i = 1 ∨ i = 2 := by omega
    have step : ∀ (k : Nat) (p q : Int), k = i → (iv a b c)[k]? = some (.int .i64 p) → (iv a' b' c')[k]? = some (.int .i64 q) → (p ≠ q → cmpV ⟨a, b, c⟩ ⟨a', b', c'⟩ = cmpI p q) → (p = q → (0 < k + 1 → a = a') ∧ (1 < k + 1 → b = b') ∧ (2 < k + 1 → c = c')) →
        awp Tryd.prog h.n c26_0 (athen (fun f' h' => ∃ y, 3 - y < 3 - i ∧ (y ≤ 3 ∧ (0 < y → a = a') ∧ (1 < y → b = b') ∧ (2 < y → c = c')) ∧ H.Sub h.n h' ∧ ∀ p ∈ [(2, Value.pointer (some ⟨h.n, 0, none⟩)), (3, .pointer (some ⟨h.n + 1, 0, none⟩)), (7, .int .i64 y)], f' p.1 = p.2 ∧ VBelow H.n p.2)
          (ablock 0 (athen (awp Tryd.prog h.n ((AC.ops [⟨some 4, none, .mv (.const (.int .i64 0))⟩]).seq .ret) (apost [4] fun v h' => v = .int .i64 (cmpV ⟨a, b, c⟩ ⟨a', b', c'⟩) ∧ h.Ext h')) (apost [4] fun v h' => v = .int .i64 (cmpV ⟨a, b, c⟩ ⟨a', b', c'⟩) ∧ h.Ext h'))))
          (mkF [(2, .pointer (some ⟨h.n, 0, none⟩)), (3, .pointer (some ⟨h.n + 1, 0, none⟩)), (7, .int .i64 i)]) H := by
      intro k p q hk g1 g2 hne heq
      subst hk
      have hk' : (k : Int) < 3 := by omega
      have w4 : IntKind.i64.wrap ((k : Int) + 1) = ((k + 1 : Nat) : Int) := w1 k (by omega)
      simp [c26_0, hk', aidx_of hi3, f0, f1, apart, g1, g2]
      refine (cmpI_ok p q H).mono ?_
      rintro _ h9 ⟨rfl, e⟩
      rw [e]; clear e h9
      by_cases hpq : p = q
      · have hz : cmpI p q = 0 := by unfold cmpI; rw [if_neg (by omega), if_neg (by omega)]
        simp [aidx_of hi3, f0, f1, apart, g1, g2, hz, w4, -Int.natCast_add]
        exact ⟨k + 1, by omega, ⟨by omega, heq hpq⟩, ⟨by omega, Nat.le_refl _, fun _ _ e => e, hc2⟩, .ptr (by show h.n < H.n; omega), .ptr (by show h.n + 1 < H.n; omega), rfl, .int⟩
      · have hz : ¬ cmpI p q = 0 := by unfold cmpI; split <;> (try split) <;> omega
        simp [aidx_of hi3, f0, f1, apart, g1, g2, hz]
        exact ⟨(hne hpq).symm, e0⟩
    rcases hI with rfl | rfl | rfl
    · exact step 0 a a' rfl rfl rfl (fun hne => by
        by_cases q : a < a'
        · have hv : vlt ⟨a, b, c⟩ ⟨a', b', c'⟩ := .inl q
          rw [cmpV, if_pos hv, cmpI, if_pos q]
        · have this : a' < a := by omega
          have hv' : ¬ vlt ⟨a, b, c⟩ ⟨a', b', c'⟩ := fun k => by unfold vlt at k; dsimp only at k; omega
          have hv2 : vlt ⟨a', b', c'⟩ ⟨a, b, c⟩ := .inl this
          rw [cmpV, if_neg hv', if_pos hv2, cmpI, if_neg q, if_pos this]) (fun e => ⟨fun _ => e, fun h => absurd h (by omega), fun h => absurd h (by omega)⟩)
    · have ea := h0 (by omega)
      exact step 1 b b' rfl rfl rfl (fun hne => by
        by_cases q : b < b'
        · have hv : vlt ⟨a, b, c⟩ ⟨a', b', c'⟩ := .inr ⟨ea, .inl q⟩
          rw [cmpV, if_pos hv, cmpI, if_pos q]
        · have this : b' < b := by omega
          have hv' : ¬ vlt ⟨a, b, c⟩ ⟨a', b', c'⟩ := fun k => by unfold vlt at k; dsimp only at k; omega
          have hv2 : vlt ⟨a', b', c'⟩ ⟨a, b, c⟩ := .inr ⟨ea.symm, .inl this⟩
          rw [cmpV, if_neg hv', if_pos hv2, cmpI, if_neg q, if_pos this]) (fun e => ⟨fun _ => ea, fun _ => e, fun h => absurd h (by omega)⟩)
    · have ea := h0 (by omega)
      have eb := h1 (by omega)
      exact step 2 c c' rfl rfl rfl (fun hne => by
        by_cases q : c < c'
        · have hv : vlt ⟨a, b, c⟩ ⟨a', b', c'⟩ := .inr ⟨ea, .inr ⟨eb, q⟩⟩
          rw [cmpV, if_pos hv, cmpI, if_pos q]
        · have this : c' < c := by omega
          have hv' : ¬ vlt ⟨a, b, c⟩ ⟨a', b', c'⟩ := fun k => by unfold vlt at k; dsimp only at k; omega
          have hv2 : vlt ⟨a', b', c'⟩ ⟨a, b, c⟩ := .inr ⟨ea.symm, .inr ⟨eb.symm, this⟩⟩
          rw [cmpV, if_neg hv', if_pos hv2, cmpI, if_neg q, if_pos this]) (fun e => ⟨fun _ => ea, fun _ => eb, fun _ => e⟩)
  · have ea := h0 (by omega)
    have eb := h1 (by omega)
    have ec := h2 (by omega)
    have hi' : ¬ (i : Int) < 3 := by omega
    have hv1 : ¬ vlt ⟨a, b, c⟩ ⟨a', b', c'⟩ := fun k => by unfold vlt at k; dsimp only at k; omega
    have hv2 : ¬ vlt ⟨a', b', c'⟩ ⟨a, b, c⟩ := fun k => by unfold vlt at k; dsimp only at k; omega
    have hz : cmpV ⟨a, b, c⟩ ⟨a', b', c'⟩ = 0 := by rw [cmpV, if_neg hv1, if_neg hv2]
    simp [c26_0, hi', hz]
    exact e0
/-! the greatest -/
def grF (o : V3) (l : List V3) : V3 := l.foldl (fun o v => if vlt o v then v else o) o
theorem cmpV_pos (x o : V3) : decide (0 < cmpV x o) = decide (vlt o x) := by
  unfold cmpV
  by_cases h1 : vlt x o
  · have h2 : ¬ vlt o x := fun k => by unfold vlt at h1 k; omega
    simp [h1, h2]
  · by_cases h2 : vlt o x
    · simp [h1, h2]
    · simp [h1, h2]
theorem vlt_trans_le {x y z : V3} (h : ¬ vlt y x) (k : ¬ vlt z y) : ¬ vlt z x := fun q => by unfold vlt at h k q; omega
theorem grF_take (o : V3) (l : List V3) (i : Nat) (h : i < l.length) : grF o (l.take (i + 1)) = if vlt (grF o (l.take i)) l[i] then l[i] else grF o (l.take i) := by
  unfold grF
  rw [List.take_succ_eq_append_getElem h, List.foldl_append]
  rfl
/-- none of those that were looked at stands behind it; it is the first or one of them -/
theorem grF_spec : ∀ (l : List V3) (o : V3), (¬ vlt (grF o l) o) ∧ (∀ x ∈ l, ¬ vlt (grF o l) x) ∧ (grF o l = o ∨ grF o l ∈ l)
  | [], o => by
    refine ⟨fun q => ?_, fun x hx => absurd hx (by simp), .inl rfl⟩
    have q : vlt o o := q
    unfold vlt at q
    omega
  | y :: r, o => by
    obtain ⟨h1, h2, h3⟩ := grF_spec r (if vlt o y then y else o)
    have e : grF o (y :: r) = grF (if vlt o y then y else o) r := rfl
    rw [e]
    by_cases hy : vlt o y
    · rw [if_pos hy] at h1 h2 h3 ⊢
      refine ⟨fun q => ?_, fun x hx => ?_, ?_⟩
      · exact vlt_trans_le (x := o) (y := y) (fun k => by unfold vlt at hy k; omega) h1 q
      · rcases List.mem_cons.1 hx with rfl | hx
        · exact h1
        · exact h2 x hx
      · rcases h3 with h | h
        · exact .inr (by rw [h]; simp)
        · exact .inr (by simp [h])
    · rw [if_neg hy] at h1 h2 h3 ⊢
      refine ⟨h1, fun x hx => ?_, ?_⟩
      · rcases List.mem_cons.1 hx with rfl | hx
        · exact vlt_trans_le (x := x) (y := o) hy h1
        · exact h2 x hx
      · rcases h3 with h | h
        · exact .inl h
        · exact .inr (by simp [h])
/-- the greatest, and whether there is one -/
def grV (l : List V3) : V3 := match l with
  | [] => ⟨0, 0, 0⟩
  | x :: _ => grF x l
def SlVat (h : Heap) (v : Value) (L : List V3) : Prop := SlV h v L
theorem SlV.form' {h : Heap} {v : Value} {L : List V3} (s : SlV h v L) : ∃ a c, v = .slice a L.length c := by
  rcases s with ⟨c, rfl, rfl⟩ | ⟨b, o, cap, c, m, e, rfl, _⟩
  · exact ⟨_, _, rfl⟩
  · exact ⟨_, _, rfl⟩
theorem slv_keep {h h' : Heap} {v : Value} {L : List V3} (s : SlV h v L) (hk : ∀ b o, h.m b = some o → h'.m b = some o) : SlV h' v L := by
  rcases s with h | ⟨b, o, cap, c, m, e, rfl, h1, h2⟩
  · exact .inl h
  · exact .inr ⟨b, o, cap, c, m, e, rfl, cellsOf_keep hk h1, h2⟩
structure GSt where
  i : Nat
theorem greatest_ok (v : Value) (L : List V3) (hn : L.length ≤ 1000000) (h : Heap) (hs : SlV h v L) : ACalls Tryd.prog 25 [v] h fun r h' => r = .tuple #[.agg (grV L).l.toArray, .bool (decide (L ≠ []))] ∧ h' = h := by
  have hiv : ∀ n (x : V3), VBelow n (.agg x.l.toArray) := fun n x => .agg fun k hk => by
    have : x.l.toArray.getD k unk ∈ x.l := by
      have hk' : k < x.l.length := by simpa using hk
      simp [Array.getD, hk']
    exact iv_bel _ this
  refine ACalls.same (vb_tup2 (hiv _ _) .bool) (acalls_ofR mix Tryd.func25 k25 n25 (by simp) fun hcl hb => ?_)
  have z3 : ([.int .i64 0, .int .i64 0, .int .i64 0] : List Value) = iv 0 0 0 := rfl
  have za : ∀ x y z, afill (iv x y z) [] = some (iv x y z) := fun x y z => rfl
  have hl3 : ∀ x y z, (iv x y z).length = 3 := fun x y z => rfl
  have hL3 : ∀ x : V3, x.l.length = 3 := fun x => rfl
  have hp1 : ∀ (p q r : Int) (x : V3), aput (iv p q r) 0 x.l = x.l := fun p q r x => rfl
  have hp2 : ∀ (y x : V3), aput y.l 0 x.l = x.l := fun y x => rfl
  have hp0 : ∀ p q r x y z, aput (iv p q r) 0 (iv x y z) = iv x y z := fun p q r x y z => rfl
  have hmc : ∀ x : V3, mcells (.agg x.l.toArray) = some x.l := fun x => rfl
  have hac : ∀ x : V3, acut x.l 0 3 = some x.l := fun x => rfl
  have bel : ∀ (x : V3) n, ∀ y ∈ x.l, VBelow n y := fun x n y hy => iv_bel y hy
  have f0 := cellsOf_new h (iv 0 0 0) .ex 1
  have e0 := (Heap.Ext.refl h).push hcl (.cells (iv 0 0 0) .ex 1)
  have hc0 : (h.push (.cells (iv 0 0 0) .ex 1)).Closed := closed_push hcl iv_bel
  rcases hs with ⟨c, rfl, rfl⟩ | ⟨b, o, cap, cs, m, e, rfl, hcell, hget⟩
  · simp [c25, z3, za, f0, mc_iv, hl3, hp0, cellsOf_set, set_push, apart, acut_iv]
    exact ⟨rfl, e0⟩
  · have hbn := cellsOf_lt hcl hcell
    by_cases hL0 : L = []
    · subst hL0
      simp [c25, z3, za, f0, mc_iv, hl3, hp0, cellsOf_set, set_push, apart, acut_iv]
      exact ⟨rfl, e0⟩
    · obtain ⟨x0, r, rfl⟩ : ∃ x r, L = x :: r := by cases L with | nil => exact absurd rfl hL0 | cons x r => exact ⟨x, r, rfl⟩
      obtain ⟨N, hN⟩ : ∃ N, (x0 :: r).length = N := ⟨_, rfl⟩
      have hN1 : 1 ≤ N := by rw [← hN]; simp
      have hN0 : ¬ (N : Int) = 0 := by omega
      have hN0' : ¬ N = 0 := by omega
      have hg0 := hget 0 (by omega)
      simp at hg0
      have hcell0 : (h.push (.cells (iv 0 0 0) .ex 1)).cellsOf b = some (cs, m, e) := by rw [cellsOf_ne (by omega)]; exact hcell
      have i0 : aidx (.int .i64 0) N = some 0 := aidx_of (i := 0) (by omega)
      have n0 : (h.push (.cells (iv 0 0 0) .ex 1)).n = h.n + 1 := rfl
      rw [hN] at hb ⊢
      simp only [c25, s_seq, s_ops]
      simp [z3, hN0, hN0', i0, hcell0, apart, hg0, f0]
      generalize h.push (.cells (iv 0 0 0) .ex 1) = H0 at *
      rw [← n0]
      have f4 : ∀ x : V3, (H0.push (.cells x.l .ex 1)).cellsOf H0.n = some (x.l, .ex, 1) := fun x => cellsOf_new _ _ _ _
      have f4z : (H0.push (.cells (iv 0 0 0) .ex 1)).cellsOf H0.n = some (iv 0 0 0, .ex, 1) := cellsOf_new _ _ _ _
      have f2 : ∀ x : V3, (H0.push (.cells x.l .ex 1)).cellsOf h.n = some (iv 0 0 0, .ex, 1) := fun x => by rw [cellsOf_ne (by omega)]; exact f0
      have fb : ∀ x : V3, (H0.push (.cells x.l .ex 1)).cellsOf b = some (cs, m, e) := fun x => by rw [cellsOf_ne (by omega)]; exact hcell0
      have hcH : ∀ x : V3, (H0.push (.cells x.l .ex 1)).Closed := fun x => closed_push hc0 (bel x _)
      have eH : ∀ x : V3, h.Ext (H0.push (.cells x.l .ex 1)) := fun x => e0.push hcl _
      simp [f4z, hmc, hL3, hl3, hp1, set_push]
      refine awp_loop_of (α := GSt) (fun z => z.i ≤ N)
        (fun z => [(2, .pointer (some ⟨h.n, 0, none⟩)), (4, .pointer (some ⟨H0.n, 0, none⟩)), (14, .slice (some ⟨b, o, none⟩) N cap), (15, .int .i64 N), (16, .int .i64 z.i)])
        (fun z => H0.push (.cells (grF x0 ((x0 :: r).take z.i)).l .ex 1)) (fun z => N - z.i) ⟨0⟩
        (Nat.zero_le _) ⟨by show h.n ≤ H0.n + 1; omega, Nat.le_refl _, fun _ _ e => e, hcH _⟩
        (by simp; exact ⟨.ptr (by show h.n < H0.n + 1; omega), .ptr (by show H0.n < H0.n + 1; omega), vb_slice (by show b < H0.n + 1; omega), .int, .int⟩) ?_
      rintro ⟨i⟩ hi
      dsimp only at hi ⊢
      by_cases hiN : i < N
      · have hi' : (i : Int) < N := by omega
        have hg := hget i (by omega)
        have hgt := grF_take x0 (x0 :: r) i (by omega)
        have w4 : IntKind.i64.wrap ((i : Int) + 1) = ((i + 1 : Nat) : Int) := w1 i (by omega)
        generalize (x0 :: r)[i] = y at *
        generalize grF x0 ((x0 :: r).take i) = G at *
        have f6 : ((H0.push (.cells G.l .ex 1)).push (.cells y.l .ex 1)).cellsOf (H0.n + 1) = some (y.l, .ex, 1) := cellsOf_new (H0.push (.cells G.l .ex 1)) _ _ _
        have f6z : ((H0.push (.cells G.l .ex 1)).push (.cells (iv 0 0 0) .ex 1)).cellsOf (H0.n + 1) = some (iv 0 0 0, .ex, 1) := cellsOf_new (H0.push (.cells G.l .ex 1)) _ _ _
        have f64 : ((H0.push (.cells G.l .ex 1)).push (.cells y.l .ex 1)).cellsOf H0.n = some (G.l, .ex, 1) := by rw [cellsOf_ne (by show ¬ H0.n = H0.n + 1; omega)]; exact f4 G
        have s6 : ∀ ob, ((H0.push (.cells G.l .ex 1)).push (.cells (iv 0 0 0) .ex 1)).set (H0.n + 1) ob = (H0.push (.cells G.l .ex 1)).push ob := fun ob => set_push (H0.push (.cells G.l .ex 1)) _ _
        have sub1 : (H0.push (.cells G.l .ex 1)).Sub h.n ((H0.push (.cells G.l .ex 1)).push (.cells y.l .ex 1)) := ⟨by show h.n ≤ H0.n + 1; omega, Nat.le_succ _, fun bb ob eb => by
          have := (hcH G bb ob eb).1
          rw [push_m, if_neg (by omega)]; exact eb, hcH G⟩
        have sub2 : (H0.push (.cells y.l .ex 1)).Sub h.n (((H0.push (.cells G.l .ex 1)).push (.cells y.l .ex 1)).set H0.n (.cells y.l .ex 1)) := ⟨by show h.n ≤ H0.n + 1; omega, Nat.le_succ _, fun bb ob eb => by
          rw [set_m]
          by_cases hbb : bb = H0.n
          · rw [if_pos hbb]; subst hbb; rw [push_m, if_pos rfl] at eb; exact eb
          · rw [if_neg hbb, push_m, if_neg (by have := (hcH y bb ob eb).1; show ¬ bb = H0.n + 1; simp at this; omega), push_m, if_neg hbb]
            rw [push_m, if_neg hbb] at eb; exact eb, hcH y⟩
        simp [c25_0, hi', aidx_of hiN, fb, apart, hg, z3, f6z, hmc, hL3, hl3, hp1, s6, f6, f64, hac]
        refine (compareV_ok y G _).mono ?_
        rintro _ h9 ⟨rfl, e⟩
        rw [e]; clear e h9
        have hpos := cmpV_pos y G
        by_cases hlt : vlt G y
        · have hc1 : 0 < cmpV y G := by simpa [hlt] using hpos
          rw [if_pos hlt] at hgt
          simp [hc1, f6, f64, apart, hac, hmc, hL3, hp2, w4, -Int.natCast_add]
          exact ⟨⟨i + 1⟩, by show N - (i + 1) < N - i; omega, by show i + 1 ≤ N; omega, by show (H0.push (.cells (grF x0 ((x0 :: r).take (i + 1))).l .ex 1)).Sub h.n _; rw [hgt]; exact sub2, .ptr (by show h.n < H0.n + 1; omega), .ptr (by show H0.n < H0.n + 1; omega), vb_slice (by show b < H0.n + 1; omega), .int, rfl, .int⟩
        · have hc1 : ¬ 0 < cmpV y G := by simpa [hlt] using hpos
          rw [if_neg hlt] at hgt
          simp [hc1, w4, -Int.natCast_add]
          exact ⟨⟨i + 1⟩, by show N - (i + 1) < N - i; omega, by show i + 1 ≤ N; omega, by show (H0.push (.cells (grF x0 ((x0 :: r).take (i + 1))).l .ex 1)).Sub h.n _; rw [hgt]; exact sub1, .ptr (by show h.n < H0.n + 1; omega), .ptr (by show H0.n < H0.n + 1; omega), vb_slice (by show b < H0.n + 1; omega), .int, rfl, .int⟩
      · have hie : i = N := by omega
        subst hie
        have hi' : ¬ ((i : Nat) : Int) < (i : Int) := by omega
        have htk : (x0 :: r).take i = x0 :: r := List.take_of_length_le (by omega)
        rw [htk]
        simp [c25_0, f4, f2, apart, hac, hmc, hL3, hl3, hp1, cellsOf_set]
        refine ⟨rfl, ⟨by show h.n ≤ H0.n + 1; omega, fun bb ob eb => ?_⟩⟩
        have := (hcl bb ob eb).1
        rw [set_m, if_neg (by omega)]
        exact (eH _).m bb ob eb
/-! VerOrder -/
theorem grV_spec (L : List V3) (h : L ≠ []) : grV L ∈ L ∧ ∀ x ∈ L, ¬ vlt (grV L) x := by
  cases L with
  | nil => exact absurd rfl h
  | cons y r =>
    obtain ⟨h1, h2, h3⟩ := grF_spec (y :: r) y
    refine ⟨?_, h2⟩
    rcases h3 with h | h
    · show grF y (y :: r) ∈ _
      rw [h]; simp
    · exact h
structure OSt where
  i : Nat
theorem verOrder_ok (x y : V3) (v : Value) (L : List V3) (hn : L.length ≤ 9223372036854775807) (h : Heap) (hs : SlV h v L) :
    ACalls Tryd.prog 5 [.agg x.l.toArray, .agg y.l.toArray, v] h fun r h' => r = .bool true ∧ h' = h := by
  refine ACalls.same .bool (acalls_of mix Tryd.func5 k5 n5 (by simp) fun hcl hb => ?_)
  have z3 : ([.int .i64 0, .int .i64 0, .int .i64 0] : List Value) = iv 0 0 0 := rfl
  have za : ∀ x y z, afill (iv x y z) [] = some (iv x y z) := fun x y z => rfl
  have hl3 : ∀ x y z, (iv x y z).length = 3 := fun x y z => rfl
  have hL3 : ∀ x : V3, x.l.length = 3 := fun x => rfl
  have hp1 : ∀ (p q r : Int) (x : V3), aput (iv p q r) 0 x.l = x.l := fun p q r x => rfl
  have hmc : ∀ x : V3, mcells (.agg x.l.toArray) = some x.l := fun x => rfl
  have hac : ∀ x : V3, acut x.l 0 3 = some x.l := fun x => rfl
  have bel : ∀ (x : V3) n, ∀ y ∈ x.l, VBelow n y := fun x n y hy => iv_bel y hy
  have heq : ∀ p q : V3, aeqL [.i, .i, .i] p.l q.l = some (decide (p = q)) := fun p q => by
    obtain ⟨a, b, c⟩ := p
    obtain ⟨a', b', c'⟩ := q
    show aeqL [.i, .i, .i] (iv a b c) (iv a' b' c') = _
    simp [aeqL, aeqC, iv]
  have heqz : ∀ p : V3, aeqL [.i, .i, .i] p.l (iv 0 0 0) = some (decide (p = ⟨0, 0, 0⟩)) := fun p => heq p ⟨0, 0, 0⟩
  obtain ⟨ad, cap, rfl⟩ := hs.form'
  have f3 : ((h.push (.cells x.l .ex 1)).push (.cells y.l .ex 1)).cellsOf h.n = some (x.l, .ex, 1) := by rw [cellsOf_ne (by show ¬ h.n = h.n + 1; omega)]; exact cellsOf_new _ _ _ _
  have f4 : ((h.push (.cells x.l .ex 1)).push (.cells y.l .ex 1)).cellsOf (h.n + 1) = some (y.l, .ex, 1) := cellsOf_new (h.push (.cells x.l .ex 1)) _ _ _
  have e0 := ((Heap.Ext.refl h).push hcl (.cells x.l .ex 1)).push hcl (.cells y.l .ex 1)
  have hc2 : ((h.push (.cells x.l .ex 1)).push (.cells y.l .ex 1)).Closed := closed_push (closed_push hcl (bel x _)) (bel y _)
  have n2 : ((h.push (.cells x.l .ex 1)).push (.cells y.l .ex 1)).n = h.n + 2 := rfl
  simp only [c5, s_seq, s_ops]
  simp [hmc]
  generalize (h.push (.cells x.l .ex 1)).push (.cells y.l .ex 1) = H at *
  have hsH : SlV H (.slice ad L.length cap) L := slv_keep hs e0.m
  refine (awakeV_ok H).mono ?_
  rintro _ h9 ⟨rfl, e⟩
  rw [e]; clear e h9
  by_cases hlen : 60 < L.length
  · have hlen' : (60 : Int) < (L.length : Int) := by omega
    simp [aun, hlen, hlen']
    exact e0
  · have hlen' : ¬ (60 : Int) < (L.length : Int) := by omega
    simp [aun, hlen, hlen', f3, f4, apart, hac]
    refine (less_ok x y H).mono ?_
    rintro _ h9 ⟨rfl, e⟩
    rw [e]; clear e h9
    -- what is wanted
    have want : ∀ (Q : AQ) (f : AF), True := fun _ _ => trivial
    refine cond_join (fun f H' => f 2 = .slice ad L.length cap ∧ f 3 = .pointer (some ⟨h.n, 0, none⟩) ∧ f 4 = .pointer (some ⟨h.n + 1, 0, none⟩) ∧ f 7 = .int .i64 (if vlt x y then -1 else 0) ∧ H' = H) ?_ ?_ ?_
    · intro hq
      have hq' : vlt x y := of_decide_eq_true hq
      simp [hq']
    · intro hq
      have hq' : ¬ vlt x y := of_decide_eq_false hq
      simp [hq']
    rintro f H' ⟨q2, q3, q4, q7, rfl⟩
    simp [q2, q3, q4, f3, f4, apart, hac]
    refine (less_ok y x H').mono ?_
    rintro _ h9 ⟨rfl, e⟩
    rw [e]; clear e h9
    refine cond_join (fun f H2 => f 2 = .slice ad L.length cap ∧ f 3 = .pointer (some ⟨h.n, 0, none⟩) ∧ f 4 = .pointer (some ⟨h.n + 1, 0, none⟩) ∧ f 7 = .int .i64 (cmpV x y) ∧ H2 = H') ?_ ?_ ?_
    · intro hq
      have hq' : vlt y x := of_decide_eq_true hq
      have hq2 : ¬ vlt x y := fun k => by unfold vlt at hq' k; omega
      have hcv : cmpV x y = 1 := by rw [cmpV, if_neg hq2, if_pos hq']
      simp [q2, q3, q4, hcv]
    · intro hq
      have hq' : ¬ vlt y x := of_decide_eq_false hq
      have hcv : cmpV x y = (if vlt x y then -1 else 0) := by
        unfold cmpV
        by_cases q : vlt x y
        · rw [if_pos q, if_pos q]
        · rw [if_neg q, if_neg q, if_neg hq']
      simp [q2, q3, q4, q7, hcv]
    clear q2 q3 q4 q7 f
    rintro f H2 ⟨q2, q3, q4, q7, rfl⟩
    simp [q2]
    refine (greatest_ok (.slice ad L.length cap) L (by omega) H2 hsH).mono ?_
    rintro _ h9 ⟨rfl, e⟩
    rw [e]; clear e h9
    have fz : (H2.push (.cells (iv 0 0 0) .ex 1)).cellsOf H2.n = some (iv 0 0 0, .ex, 1) := cellsOf_new _ _ _ _
    simp [z3, fz, hmc, hL3, hl3, hp1, set_push, q2]
    generalize hG : grV L = G at *
    have fG : (H2.push (.cells G.l .ex 1)).cellsOf H2.n = some (G.l, .ex, 1) := cellsOf_new _ _ _ _
    have hcG : (H2.push (.cells G.l .ex 1)).Closed := closed_push hc2 (bel G _)
    have eG := e0.push hcl (.cells G.l .ex 1)
    have g3 : (H2.push (.cells G.l .ex 1)).cellsOf h.n = some (x.l, .ex, 1) := by rw [cellsOf_ne (by omega)]; exact f3
    have g4 : (H2.push (.cells G.l .ex 1)).cellsOf (h.n + 1) = some (y.l, .ex, 1) := by rw [cellsOf_ne (by omega)]; exact f4
    have hsG : SlV (H2.push (.cells G.l .ex 1)) (.slice ad L.length cap) L := slv_keep hs eG.m
    have hnG : (H2.push (.cells G.l .ex 1)).n = h.n + 3 := by show H2.n + 1 = _; omega
    have hG2 : H2.n = h.n + 2 := n2
    generalize H2.push (.cells G.l .ex 1) = H3 at *
    have belS : VBelow H3.n (.slice ad L.length cap) := by
      rcases hsG with ⟨c, k1, _⟩ | ⟨b, o, c2, c, m, e, k1, k2, _⟩
      · rw [k1]; exact .snil
      · rw [k1]; exact vb_slice (cellsOf_lt hcG k2)
    refine awp_loop_of (α := OSt) (fun z => z.i ≤ L.length ∧ ∀ j (hj : j < L.length), j < z.i → ¬ vlt G L[j])
      (fun z => [(2, .slice ad L.length cap), (3, .pointer (some ⟨h.n, 0, none⟩)), (4, .pointer (some ⟨h.n + 1, 0, none⟩)), (7, .int .i64 (cmpV x y)), (8, .pointer (some ⟨H2.n, 0, none⟩)), (9, .bool (decide (L ≠ []))), (10, .bool (decide (G ∈ L.take z.i))), (29, .slice ad L.length cap), (30, .int .i64 L.length), (31, .int .i64 z.i)])
      (fun _ => H3) (fun z => L.length - z.i) ⟨0⟩ ⟨Nat.zero_le _, fun j _ k => absurd k (by show ¬ j < 0; omega)⟩ ⟨by omega, Nat.le_refl _, fun _ _ e => e, hcG⟩
      (by simp [q2, q3, q4, q7]; repeat' (first | exact .int | exact .bool | exact belS | exact .ptr (by show h.n < H3.n; omega) | exact .ptr (by show h.n + 1 < H3.n; omega) | exact .ptr (by show H2.n < H3.n; omega) | rfl | apply And.intro)) ?_
    rintro ⟨i⟩ ⟨hi, hno⟩
    dsimp only at hi hno ⊢
    by_cases hiL : i < L.length
    · have hi' : (i : Int) < L.length := by omega
      have w4 : IntKind.i64.wrap ((i : Int) + 1) = ((i + 1 : Nat) : Int) := w1 i (by omega)
      rcases hsG with ⟨c, k1, k2⟩ | ⟨b, o, c2, cs, m, e, k1, k2, k3⟩
      · rw [k2] at hiL; simp at hiL
      · cases k1
        have hg := k3 i hiL
        have hbn := cellsOf_lt hcG k2
        have hm : (G ∈ L.take (i + 1)) ↔ (G ∈ L.take i ∨ G = L[i]) := by rw [List.take_succ_eq_append_getElem hiL, List.mem_append, List.mem_singleton]
        have hspec : ¬ vlt G L[i] := by
          rw [← hG]
          exact (grV_spec L (fun q => by rw [q] at hiL; simp at hiL)).2 _ (List.getElem_mem _)
        generalize L[i] = w at *
        have f12 : (H3.push (.cells (iv 0 0 0) .ex 1)).cellsOf H3.n = some (iv 0 0 0, .ex, 1) := cellsOf_new _ _ _ _
        have f12w : (H3.push (.cells w.l .ex 1)).cellsOf H3.n = some (w.l, .ex, 1) := cellsOf_new _ _ _ _
        have f8 : (H3.push (.cells w.l .ex 1)).cellsOf H2.n = some (G.l, .ex, 1) := by rw [cellsOf_ne (by omega)]; exact fG
        have sub1 : H3.Sub h.n (H3.push (.cells w.l .ex 1)) := ⟨by omega, Nat.le_succ _, fun bb ob eb => by
          have := (hcG bb ob eb).1
          rw [push_m, if_neg (by omega)]; exact eb, hcG⟩
        by_cases hin : G ∈ L.take i
        · simp [c5_0, hi', aidx_of hiL, k2, apart, hg, z3, f12, f12w, f8, hmc, hL3, hl3, hp1, set_push, hin, hac]
          refine (less_ok G w _).mono ?_
          rintro _ h9 ⟨rfl, e⟩
          rw [e]; clear e h9
          simp [hspec, w4, -Int.natCast_add]
          refine ⟨⟨i + 1⟩, by show L.length - (i + 1) < L.length - i; omega, ⟨by show i + 1 ≤ L.length; omega, fun j hj hj2 => ?_⟩, sub1, by repeat' (first | exact .int | exact .bool | exact belS | exact .ptr (by show h.n < H3.n; omega) | exact .ptr (by show h.n + 1 < H3.n; omega) | exact .ptr (by show H2.n < H3.n; omega) | rfl | exact (show G ∈ L.take (i + 1) from hm.2 (.inl hin)) | apply And.intro)⟩
          rw [← hG]
          exact (grV_spec L (fun q => by rw [q] at hj; simp at hj)).2 _ (List.getElem_mem _)
        · simp [c5_0, hi', aidx_of hiL, k2, apart, hg, z3, f12, f12w, f8, hmc, hL3, hl3, hp1, set_push, hin, hac, heq]
          refine (less_ok G w _).mono ?_
          rintro _ h9 ⟨rfl, e⟩
          rw [e]; clear e h9
          simp [hspec, w4, -Int.natCast_add]
          refine ⟨⟨i + 1⟩, by show L.length - (i + 1) < L.length - i; omega, ⟨by show i + 1 ≤ L.length; omega, fun j hj hj2 => ?_⟩, sub1, by repeat' (first | exact .int | exact .bool | exact belS | exact .ptr (by show h.n < H3.n; omega) | exact .ptr (by show h.n + 1 < H3.n; omega) | exact .ptr (by show H2.n < H3.n; omega) | rfl | exact (show w = G ↔ G ∈ L.take (i + 1) by rw [hm]; simp [hin]; exact eq_comm) | apply And.intro)⟩
          rw [← hG]
          exact (grV_spec L (fun q => by rw [q] at hj; simp at hj)).2 _ (List.getElem_mem _)
    · have hie : i = L.length := by omega
      have hi' : ¬ (i : Int) < (L.length : Int) := by omega
      have htk : L.take i = L := List.take_of_length_le (by omega)
      rw [htk]
      simp [c5_0, hi', g3, g4, apart, hac]
      refine (compareV_ok x y H3).mono ?_
      rintro _ h9 ⟨rfl, e⟩
      rw [e]; clear e h9
      by_cases hL0 : L = []
      · have hGz : G = ⟨0, 0, 0⟩ := by rw [← hG, hL0]; rfl
        have hGn : G ∉ L := by rw [hL0]; simp
        subst hL0
        simp [aeq, aun, fG, apart, hac, z3, za, heqz, hGz]
        try exact eG
      · have hGi := (grV_spec L hL0).1
        rw [hG] at hGi
        have hlp : 0 < L.length := by cases L with | nil => exact absurd rfl hL0 | cons a b => simp
        have hlp' : (0 : Int) < (L.length : Int) := by omega
        simp [aeq, aun, fG, apart, hac, z3, za, heqz, hL0, hGi, hlp, hlp']
        try exact eG
end Go.Proofs.YtpcnpnddkgdaeaaDoor.vero
