/-
  BudgetTrims: the row.
-/
import Derived.Test.YthhhcpbkedikfaaBudt
import Derived.Test.YthhhcpbkedikfaaBegun
import Derived.KernelRfl
import Derived.ProofKit
import Derived.OpenShut
import Derived.ShutString
import Derived.ChangeOld
import Derived.SizedLaws
import Derived.ChangeArms
set_option linter.unusedSimpArgs false
set_option linter.unusedVariables false
namespace Go.Proofs.Ythhhcpbkedikfaa.budgetTrims
open Go Go.Ab Go.Proofs Go.RowKit Go.ChangeShapes Go.WideShapes Go.ChangeAt Go.Proofs.Ythhhcpbkedikfaa.budt Go.Proofs.Ythhhcpbkedikfaa.num Go.Proofs.Ythhhcpbkedikfaa.sha Go.Proofs.Ythhhcpbkedikfaa.head Go.Proofs.Ythhhcpbkedikfaa.shar Go.Proofs.Ythhhcpbkedikfaa.geo Go.Proofs.Ythhhcpbkedikfaa.buda Go.Proofs.Ythhhcpbkedikfaa.budb
theorem own : ownKnob Try.prog.godebug = none := by kernel_rfl
theorem laid : laidOutB Try.prog = true := by kernel_rfl
theorem okWide_any {P : Program} {w : World} {b b' : Nat} {t : TypeId} {v : Value} (h : Value.okWide P w .any b t v) : Value.okWide P w .any b' t v := h
theorem u8_range {n : Int} (h : (Lit.int .u8 n).wf = true) : 0 ≤ n ∧ n < 256 := by
  have := bounds_u8 h
  omega
theorem int_range {n : Int} (h : (Lit.int .i64 n).wf = true) : n < 9223372036854775808 ∧ -9223372036854775808 ≤ n := by
  simp [Lit.wf, IntKind.min, IntKind.max, IntKind.signed, IntKind.bits] at h
  omega
set_option maxRecDepth 100000 in
theorem lifted (os : Os) (started : os.Started) (H : Type) (enc : TypeId × Value → H) :
    ReturnsInHanded {} Try.checked os 9 .any (Rows.budgetTrimsSpec.pre6 enc Try.prog Try.f9 Rows.budgetTrimsRow.domain false) (Rows.budgetTrimsSpec.post enc Try.prog Try.f9 false true false false) := by
  refine returnsInHanded_of_change_sized (C := Try.checked) own started (by kernel_rfl) Try.func9
    (ChangeSpec.witness6 (enc := enc) (C := Try.checked) false ⟨#[], #[.agg #[.int .i64 0, .int .i64 0, .int .i64 0], .slice none 0 0], []⟩ 8 (by kernel_rfl) (by kernel_rfl) (by kernel_rfl) (by kernel_rfl)) ?_
  intro W base args ds gs before hval0 hW hcnd hsz0 _
  have hval : ∀ (j : Nat) t v, Try.f9.params[j]? = some t → args[j]? = some v → Value.okWide Try.prog W .any base t v := hval0
  have hW' := hW
  obtain ⟨p, q, hA0, hV, rfl, hfz, hnd⟩ := hW
  have hA : DataW.TrodAll enc Try.prog W 0 (fun _ => true) true Try.f9.params.toList args.toList ds p := hA0
  have hAk := hA
  rw [Try.params9] at hA hval hAk
  obtain ⟨v0, vs0, d0, ds0, p0, q0, hargs, rfl, rfl, h0, r00⟩ := trodAll_cons hA
  obtain ⟨v1, vs1, d1, ds1, p1, q1, rfl, rfl, rfl, h1, r10⟩ := trodAll_cons r00
  obtain ⟨rfl, rfl, rfl⟩ := trodAll_nil r10
  obtain rfl : args = #[v0, v1] := by cases args; simp_all
  obtain ⟨rfl, rfl⟩ := trodVars_none hV
  have g0 := Given.start W
  obtain ⟨xs0, rfl, len0, wf0⟩ := open_struct_ints (n := 3) Try.underlying28 (by kernel_rfl) (fun i hi => by
      match i, hi with
      | 0, _ => exact ⟨_, rfl, rfl, by kernel_rfl, Try.underlying3⟩
      | 1, _ => exact ⟨_, rfl, rfl, by kernel_rfl, Try.underlying3⟩
      | 2, _ => exact ⟨_, rfl, rfl, by kernel_rfl, Try.underlying3⟩) ⟨3, Try.underlying3, fun i hi f hf => by
      match i, hi with
      | 0, _ => cases hf; rfl
      | 1, _ => cases hf; rfl
      | 2, _ => cases hf; rfl⟩ (hval 0 28 v0 rfl rfl) h0
  obtain ⟨a0, b0, c0, rfl⟩ := len3 len0
  have r0 : ∀ x ∈ [a0, b0, c0], x < 9223372036854775808 ∧ -9223372036854775808 ≤ x := fun x hx => int_range (wf0 x hx)
  obtain ⟨μ1, hh1, va1, a1, g1x, leμ1, leh1, rel1, sl1, len10, mem1⟩ := given_rows (ea := ec) (n := 5) g0 Try.underlying67 (by kernel_rfl) (by omega) (okWide_any (hval 1 67 v1 rfl rfl)) h1 ec_plain (fun fuel x cs hx => ev_elem hx)
  have len1 : a1.length ≤ 9223372036854775807 := len10
  refine (law_calls g1x (lrel_cons (rel_ints _ .i64 [a0, b0, c0]) (lrel_cons rel1 (lrel_nil))) (btrims_law a0 b0 c0 a1 va1 _ sl1 len1)).mono fun e W' ⟨he, bel⟩ => ?_
  subst he
  exact ⟨_, rfl, _, _, _, [], _, [], hW', trodAll_mk1 (shut_bool Try.underlying4 _), trodAll_keep laid bel (by kernel_rfl) hAk (fun x hx => by simpa using hW'.lt x (by simpa using hx)), rfl, bel.frame _, fun h => by cases h⟩
theorem joined : joinedFacts Try.pinned.checked.prog 9 Try.f9 Rows.budgetTrimsSpec Rows.budgetTrimsRow = true := by
  have b := begun
  simp only [Bool.and_eq_true] at b
  unfold joinedFacts
  have b1 : (Rows.budgetTrimsRow.lifted == Try.pinned.checked.prog.liftsFinal) = true := b.1.2
  have b2 : (Try.pinned.checked.prog.make == some Rows.budgetTrimsRow.make) = true := b.2
  simp only [b.1.1, b1, b2, Bool.and_true]
  simp only [Bool.and_eq_true]
  repeat' apply And.intro
  all_goals kernel_rfl
theorem over : Rows.budgetTrimsRow.holds Try.pinned (OpenSpec.ofChange Rows.budgetTrimsSpec) :=
  OpenClaim.holds_of_wide 9 Try.f9 rfl rfl rfl rfl rfl rfl rfl ⟨rfl, rfl, rfl, rfl, rfl⟩ rfl rfl rfl rfl rfl (by kernel_rfl) Try.func9 joined
    (of_decide_eq_true (by kernel_rfl)) (by unfold Func.isWrapper; first | (rw [if_pos (by decide +kernel)]; kernel_rfl) | (rw [if_neg (by decide +kernel)]; exact ⟨rfl, rfl⟩))
    (fun os started H enc _ => lifted os started H enc)
end Go.Proofs.Ythhhcpbkedikfaa.budgetTrims
namespace Go.Proofs.Ythhhcpbkedikfaa
/-- The row. -/
theorem budgetTrims_holds : Rows.BudgetTrimsSaid := budgetTrims.over
end Go.Proofs.Ythhhcpbkedikfaa
