/-
  NumTakes: the row.
-/
import Derived.Test.YthhhcpbkedikfaaNum
import Derived.Test.YthhhcpbkedikfaaBegun
import Derived.KernelRfl
import Derived.ProofKit
import Derived.OpenShut
import Derived.ShutString
import Derived.ChangeOld
import Derived.SizedLaws
import Derived.ChangeArms
set_option linter.unusedSimpArgs false
set_option linter.unusedVariables false
namespace Go.Proofs.Ythhhcpbkedikfaa.numTakes
open Go Go.Ab Go.Proofs Go.RowKit Go.ChangeShapes Go.WideShapes Go.ChangeAt Go.Proofs.Ythhhcpbkedikfaa.num
theorem own : ownKnob Try.prog.godebug = none := by kernel_rfl
theorem laid : laidOutB Try.prog = true := by kernel_rfl
theorem okWide_any {P : Program} {w : World} {b b' : Nat} {t : TypeId} {v : Value} (h : Value.okWide P w .any b t v) : Value.okWide P w .any b' t v := h
theorem int_range {n : Int} (h : (Lit.int .i64 n).wf = true) : n < 9223372036854775808 ∧ -9223372036854775808 ≤ n := by
  simp [Lit.wf, IntKind.min, IntKind.max, IntKind.signed, IntKind.bits] at h
  omega
set_option maxRecDepth 100000 in
theorem lifted (os : Os) (started : os.Started) (H : Type) (enc : TypeId × Value → H) :
    ReturnsInHanded {} Try.checked os 6 .any (Rows.numTakesSpec.pre6 enc Try.prog Try.f6 Rows.numTakesRow.domain false) (Rows.numTakesSpec.post enc Try.prog Try.f6 false true false false) := by
  refine returnsInHanded_of_change_sized (C := Try.checked) own started (by kernel_rfl) Try.func6
    (ChangeSpec.witness6 (enc := enc) (C := Try.checked) false ⟨#[], #[.string ⟨#[]⟩, .slice none 0 0], []⟩ 8 (by kernel_rfl) (by kernel_rfl) (by kernel_rfl) (by kernel_rfl)) ?_
  intro W base args ds gs before hval0 hW hcnd hsz0 _
  have hval : ∀ (j : Nat) t v, Try.f6.params[j]? = some t → args[j]? = some v → Value.okWide Try.prog W .any base t v := hval0
  have hW' := hW
  obtain ⟨p, q, hA0, hV, rfl, hfz, hnd⟩ := hW
  have hA : DataW.TrodAll enc Try.prog W 0 (fun _ => true) true Try.f6.params.toList args.toList ds p := hA0
  have hAk := hA
  rw [Try.params6] at hA hval hAk
  obtain ⟨v0, vs0, d0, ds0, p0, q0, hargs, rfl, rfl, h0, r00⟩ := trodAll_cons hA
  obtain ⟨v1, vs1, d1, ds1, p1, q1, rfl, rfl, rfl, h1, r10⟩ := trodAll_cons r00
  obtain ⟨rfl, rfl, rfl⟩ := trodAll_nil r10
  obtain rfl : args = #[v0, v1] := by cases args; simp_all
  obtain ⟨rfl, rfl⟩ := trodVars_none hV
  have g0 := Given.start W
  obtain ⟨s0, rfl⟩ := okWide_string Try.underlying9 (hval 0 9 v0 rfl rfl)
  obtain ⟨a0, rfl⟩ : ∃ a0, s0 = bs a0 := ⟨_, bs_of s0⟩
  obtain ⟨μ1, hh1, va1, a1, g1x, leμ1, leh1, rel1, sl1, _, mem1⟩ := g0.slice (ev := cI) Try.underlying37 (by kernel_rfl) (okWide_any (hval 1 37 v1 rfl rfl)) h1 fun n x D Pl hx => by
    obtain ⟨m, hc, _, _⟩ := DataW.trod_int Try.underlying3 hx
    simp only [List.cons.injEq, and_true] at hc
    exact ⟨m, hc, fun μ => by rw [hc]; exact .int, by rw [hc]; rfl⟩
  have r1 : ∀ k ∈ a1, k < 9223372036854775808 ∧ -9223372036854775808 ≤ k := fun k hk => by
    obtain ⟨n, x, D, Pl, hx, rfl⟩ := mem1 k hk
    obtain ⟨m, hc, _, wf⟩ := DataW.trod_int Try.underlying3 hx
    simp only [List.cons.injEq, and_true] at hc
    cases hc
    exact int_range wf
  refine (law_calls g1x (lrel_cons .string (lrel_cons rel1 (lrel_nil))) (takes_ok a0 a1 va1 _ sl1)).mono fun e W' ⟨he, bel⟩ => ?_
  subst he
  exact ⟨_, rfl, _, _, _, [], _, [], hW', trodAll_mk1 (shut_bool Try.underlying4 _), trodAll_keep laid bel (by kernel_rfl) hAk (fun x hx => by simpa using hW'.lt x (by simpa using hx)), rfl, bel.frame _, fun h => by cases h⟩
theorem joined : joinedFacts Try.pinned.checked.prog 6 Try.f6 Rows.numTakesSpec Rows.numTakesRow = true := by
  have b := begun
  simp only [Bool.and_eq_true] at b
  unfold joinedFacts
  have b1 : (Rows.numTakesRow.lifted == Try.pinned.checked.prog.liftsFinal) = true := b.1.2
  have b2 : (Try.pinned.checked.prog.make == some Rows.numTakesRow.make) = true := b.2
  simp only [b.1.1, b1, b2, Bool.and_true]
  simp only [Bool.and_eq_true]
  repeat' apply And.intro
  all_goals kernel_rfl
theorem over : Rows.numTakesRow.holds Try.pinned (OpenSpec.ofChange Rows.numTakesSpec) :=
  OpenClaim.holds_of_wide 6 Try.f6 rfl rfl rfl rfl rfl rfl rfl ⟨rfl, rfl, rfl, rfl, rfl⟩ rfl rfl rfl rfl rfl (by kernel_rfl) Try.func6 joined
    (of_decide_eq_true (by kernel_rfl)) (by unfold Func.isWrapper; first | (rw [if_pos (by decide +kernel)]; kernel_rfl) | (rw [if_neg (by decide +kernel)]; exact ⟨rfl, rfl⟩))
    (fun os started H enc _ => lifted os started H enc)
end Go.Proofs.Ythhhcpbkedikfaa.numTakes
namespace Go.Proofs.Ythhhcpbkedikfaa
/-- The row. -/
theorem numTakes_holds : Rows.NumTakesSaid := numTakes.over
end Go.Proofs.Ythhhcpbkedikfaa
