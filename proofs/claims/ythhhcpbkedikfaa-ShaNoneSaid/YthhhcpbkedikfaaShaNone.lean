/-
  ShaNone: the row.
-/
import Derived.Test.YthhhcpbkedikfaaShaw
import Derived.Test.YthhhcpbkedikfaaBegun
import Derived.KernelRfl
import Derived.ProofKit
import Derived.OpenShut
import Derived.ShutString
import Derived.ChangeOld
import Derived.SizedLaws
import Derived.ChangeArms
set_option linter.unusedSimpArgs false
set_option linter.unusedVariables false
namespace Go.Proofs.Ythhhcpbkedikfaa.shaNone
open Go Go.Ab Go.Proofs Go.RowKit Go.ChangeShapes Go.WideShapes Go.ChangeAt Go.Proofs.Ythhhcpbkedikfaa.shaw Go.Proofs.Ythhhcpbkedikfaa.num Go.Proofs.Ythhhcpbkedikfaa.sha Go.Proofs.Ythhhcpbkedikfaa.head Go.Proofs.Ythhhcpbkedikfaa.shar
theorem own : ownKnob Try.prog.godebug = none := by kernel_rfl
theorem laid : laidOutB Try.prog = true := by kernel_rfl
theorem okWide_any {P : Program} {w : World} {b b' : Nat} {t : TypeId} {v : Value} (h : Value.okWide P w .any b t v) : Value.okWide P w .any b' t v := h
theorem u8_range {n : Int} (h : (Lit.int .u8 n).wf = true) : 0 ≤ n ∧ n < 256 := by
  have := bounds_u8 h
  omega
theorem int_range {n : Int} (h : (Lit.int .i64 n).wf = true) : n < 9223372036854775808 ∧ -9223372036854775808 ≤ n := by
  simp [Lit.wf, IntKind.min, IntKind.max, IntKind.signed, IntKind.bits] at h
  omega
set_option maxRecDepth 100000 in
theorem lifted (os : Os) (started : os.Started) (H : Type) (enc : TypeId × Value → H) :
    ReturnsInHanded {} Try.checked os 16 .any (Rows.shaNoneSpec.pre6 enc Try.prog Try.f16 Rows.shaNoneRow.domain false) (Rows.shaNoneSpec.post enc Try.prog Try.f16 false true false false) := by
  refine returnsInHanded_of_change_sized (C := Try.checked) own started (by kernel_rfl) Try.func16
    (ChangeSpec.witness6 (enc := enc) (C := Try.checked) false ⟨#[], #[.string ⟨#[]⟩], []⟩ 8 (by kernel_rfl) (by kernel_rfl) (by kernel_rfl) (by kernel_rfl)) ?_
  intro W base args ds gs before hval0 hW hcnd hsz0 _
  have hval : ∀ (j : Nat) t v, Try.f16.params[j]? = some t → args[j]? = some v → Value.okWide Try.prog W .any base t v := hval0
  have hW' := hW
  obtain ⟨p, q, hA0, hV, rfl, hfz, hnd⟩ := hW
  have hA : DataW.TrodAll enc Try.prog W 0 (fun _ => true) true Try.f16.params.toList args.toList ds p := hA0
  have hAk := hA
  rw [Try.params16] at hA hval hAk
  obtain ⟨v0, vs0, d0, ds0, p0, q0, hargs, rfl, rfl, h0, r00⟩ := trodAll_cons hA
  obtain ⟨rfl, rfl, rfl⟩ := trodAll_nil r00
  obtain rfl : args = #[v0] := by cases args; simp_all
  obtain ⟨rfl, rfl⟩ := trodVars_none hV
  have g0 := Given.start W
  obtain ⟨s0, rfl⟩ := okWide_string Try.underlying9 (hval 0 9 v0 rfl rfl)
  obtain ⟨a0, rfl⟩ : ∃ a0, s0 = bs a0 := ⟨_, bs_of s0⟩
  refine (law_calls g0 (lrel_cons .string (lrel_nil)) (shaNone_ok a0 _)).mono fun e W' ⟨he, bel⟩ => ?_
  subst he
  exact ⟨_, rfl, _, _, _, [], _, [], hW', trodAll_mk1 (shut_bool Try.underlying4 _), trodAll_keep laid bel (by kernel_rfl) hAk (fun x hx => by simpa using hW'.lt x (by simpa using hx)), rfl, bel.frame _, fun h => by cases h⟩
theorem joined : joinedFacts Try.pinned.checked.prog 16 Try.f16 Rows.shaNoneSpec Rows.shaNoneRow = true := by
  have b := begun
  simp only [Bool.and_eq_true] at b
  unfold joinedFacts
  have b1 : (Rows.shaNoneRow.lifted == Try.pinned.checked.prog.liftsFinal) = true := b.1.2
  have b2 : (Try.pinned.checked.prog.make == some Rows.shaNoneRow.make) = true := b.2
  simp only [b.1.1, b1, b2, Bool.and_true]
  simp only [Bool.and_eq_true]
  repeat' apply And.intro
  all_goals kernel_rfl
theorem over : Rows.shaNoneRow.holds Try.pinned (OpenSpec.ofChange Rows.shaNoneSpec) :=
  OpenClaim.holds_of_wide 16 Try.f16 rfl rfl rfl rfl rfl rfl rfl ⟨rfl, rfl, rfl, rfl, rfl⟩ rfl rfl rfl rfl rfl (by kernel_rfl) Try.func16 joined
    (of_decide_eq_true (by kernel_rfl)) (by unfold Func.isWrapper; first | (rw [if_pos (by decide +kernel)]; kernel_rfl) | (rw [if_neg (by decide +kernel)]; exact ⟨rfl, rfl⟩))
    (fun os started H enc _ => lifted os started H enc)
end Go.Proofs.Ythhhcpbkedikfaa.shaNone
namespace Go.Proofs.Ythhhcpbkedikfaa
/-- The row. -/
theorem shaNone_holds : Rows.ShaNoneSaid := shaNone.over
end Go.Proofs.Ythhhcpbkedikfaa
