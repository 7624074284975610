/-
  Contracts.
-/
import Derived.Test.YtikpgnkegnedoaaGreatStr
import Derived.Test.YtikpgnkegnedoaaGreatAbStep
import Derived.Test.YtikpgnkegnedoaaGreatProg
import Derived.IntWalk
import Derived.KernelRfl
set_option linter.unusedSimpArgs false
set_option linter.unusedVariables false
set_option linter.unusedSectionVars false
namespace Go.Proofs.YtikpgnkegnedoaaGreat.vers
open Go Go.Ab Go.Proofs Go.RowKit Go.Proofs.YtikpgnkegnedoaaGreat.str
variable [Inhabited TabBox]
variable [Nonempty GF]
variable [Nonempty GE]
set_option maxRecDepth 100000
attribute [local simp] s_ops s_seq s_cond s_cond_t s_cond_f s_block s_exit s_ret s_skip s_then_n s_then_n' s_then_e s_then_e' s_then_r s_then_r' s_block_n s_block_r s_block_e s_post_r s_post_n s_res0 s_res1 s_res2 s_res3 s_res4 s_nil s_cons s_guard s_guard_tt s_guard_ff s_guard_tf s_guard_ft s_guard_u s_call s_kL s_put s_put0 s_set s_tmp s_const s_func s_glob s_init s_mkF s_mkF0 s_mv s_bin s_pick s_op aop oK_some oK_none bK_some bK_none b_add b_sub b_mul b_quo b_rem b_and b_or b_xor b_andNot b_shl b_shr b_eql b_neq b_lss b_leq b_gtr b_geq b_sadd b_seql b_sneq b_slss b_sleq b_sgtr b_sgeq s_draw s_drawT s_tK s_tT s_tF s_tB s_tR s_stage s_stage0 s_kW s_kR s_rc0 s_rc s_rcg rK_some rK_none rG_b rG_u s_callv s_callv_f s_nextM s_postR_r s_postR_n s_resA0 s_resAt s_resAc s_resC s_tup0 s_tup1 s_tup2 s_tup3
theorem vb_tup2 {n : Nat} {a b : Value} (ha : VBelow n a) (hb : VBelow n b) : VBelow n (.tuple #[a, b]) := vb_tuple2 ha hb
def vOk (a b c : Int) : Prop := (0 ≤ a ∧ a ≤ 65535) ∧ (0 ≤ b ∧ b ≤ 65535) ∧ (0 ≤ c ∧ c ≤ 65535)
instance (a b c : Int) : Decidable (vOk a b c) := by unfold vOk; infer_instance
end Go.Proofs.YtikpgnkegnedoaaGreat.vers

