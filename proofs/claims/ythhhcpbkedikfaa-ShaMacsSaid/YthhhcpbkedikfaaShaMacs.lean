/-
  ShaMacs: the row.
-/
import Derived.Test.YthhhcpbkedikfaaSham
import Derived.Test.YthhhcpbkedikfaaBegun
import Derived.KernelRfl
import Derived.ProofKit
import Derived.OpenShut
import Derived.ShutString
import Derived.ChangeOld
import Derived.SizedLaws
import Derived.ChangeArms
set_option linter.unusedSimpArgs false
set_option linter.unusedVariables false
namespace Go.Proofs.Ythhhcpbkedikfaa.shaMacs
open Go Go.Ab Go.Proofs Go.RowKit Go.ChangeShapes Go.WideShapes Go.ChangeAt Go.Proofs.Ythhhcpbkedikfaa.sham Go.Proofs.Ythhhcpbkedikfaa.num Go.Proofs.Ythhhcpbkedikfaa.sha Go.Proofs.Ythhhcpbkedikfaa.head Go.Proofs.Ythhhcpbkedikfaa.shar Go.Proofs.Ythhhcpbkedikfaa.shaw Go.Proofs.Ythhhcpbkedikfaa.shas Go.Proofs.Ythhhcpbkedikfaa.shap
theorem own : ownKnob Try.prog.godebug = none := by kernel_rfl
theorem laid : laidOutB Try.prog = true := by kernel_rfl
theorem okWide_any {P : Program} {w : World} {b b' : Nat} {t : TypeId} {v : Value} (h : Value.okWide P w .any b t v) : Value.okWide P w .any b' t v := h
theorem u8_range {n : Int} (h : (Lit.int .u8 n).wf = true) : 0 ≤ n ∧ n < 256 := by
  have := bounds_u8 h
  omega
theorem int_range {n : Int} (h : (Lit.int .i64 n).wf = true) : n < 9223372036854775808 ∧ -9223372036854775808 ≤ n := by
  simp [Lit.wf, IntKind.min, IntKind.max, IntKind.signed, IntKind.bits] at h
  omega
set_option maxRecDepth 100000 in
theorem lifted (os : Os) (started : os.Started) (H : Type) (enc : TypeId × Value → H) :
    ReturnsInHanded {} Try.checked os 18 .any (Rows.shaMacsSpec.pre6 enc Try.prog Try.f18 Rows.shaMacsRow.domain false) (Rows.shaMacsSpec.post enc Try.prog Try.f18 false true false false) := by
  refine returnsInHanded_of_change_sized (C := Try.checked) own started (by kernel_rfl) Try.func18
    (ChangeSpec.witness6 (enc := enc) (C := Try.checked) false ⟨#[], #[.string ⟨#[]⟩, .slice none 0 0, .agg #[.int .u8 0, .int .u8 0, .int .u8 0, .int .u8 0, .int .u8 0, .int .u8 0, .int .u8 0, .int .u8 0, .int .u8 0, .int .u8 0, .int .u8 0, .int .u8 0, .int .u8 0, .int .u8 0, .int .u8 0, .int .u8 0, .int .u8 0, .int .u8 0, .int .u8 0, .int .u8 0, .int .u8 0, .int .u8 0, .int .u8 0, .int .u8 0, .int .u8 0, .int .u8 0, .int .u8 0, .int .u8 0, .int .u8 0, .int .u8 0, .int .u8 0, .int .u8 0, .int .u8 0, .int .u8 0, .int .u8 0, .int .u8 0, .int .u8 0, .int .u8 0, .int .u8 0, .int .u8 0, .int .u8 0, .int .u8 0, .int .u8 0, .int .u8 0, .int .u8 0, .int .u8 0, .int .u8 0, .int .u8 0, .int .u8 0, .int .u8 0, .int .u8 0, .int .u8 0, .int .u8 0, .int .u8 0, .int .u8 0, .int .u8 0, .int .u8 0, .int .u8 0, .int .u8 0, .int .u8 0, .int .u8 0, .int .u8 0, .int .u8 0, .int .u8 0]], []⟩ 8 (by kernel_rfl) (by kernel_rfl) (by kernel_rfl) (by kernel_rfl)) ?_
  intro W base args ds gs before hval0 hW hcnd hsz0 _
  have hval : ∀ (j : Nat) t v, Try.f18.params[j]? = some t → args[j]? = some v → Value.okWide Try.prog W .any base t v := hval0
  have hW' := hW
  obtain ⟨p, q, hA0, hV, rfl, hfz, hnd⟩ := hW
  have hA : DataW.TrodAll enc Try.prog W 0 (fun _ => true) true Try.f18.params.toList args.toList ds p := hA0
  have hAk := hA
  rw [Try.params18] at hA hval hAk
  obtain ⟨v0, vs0, d0, ds0, p0, q0, hargs, rfl, rfl, h0, r00⟩ := trodAll_cons hA
  obtain ⟨v1, vs1, d1, ds1, p1, q1, rfl, rfl, rfl, h1, r10⟩ := trodAll_cons r00
  obtain ⟨v2, vs2, d2, ds2, p2, q2, rfl, rfl, rfl, h2, r20⟩ := trodAll_cons r10
  obtain ⟨rfl, rfl, rfl⟩ := trodAll_nil r20
  obtain rfl : args = #[v0, v1, v2] := by cases args; simp_all
  obtain ⟨rfl, rfl⟩ := trodVars_none hV
  have g0 := Given.start W
  obtain ⟨s0, rfl⟩ := okWide_string Try.underlying9 (hval 0 9 v0 rfl rfl)
  obtain ⟨a0, rfl⟩ : ∃ a0, s0 = bs a0 := ⟨_, bs_of s0⟩
  obtain ⟨μ1, hh1, va1, a1, g1x, leμ1, leh1, rel1, sl1, len10, mem1⟩ := g0.slice (ev := enS) Try.underlying90 (by kernel_rfl) (okWide_any (hval 1 90 v1 rfl rfl)) h1 fun n x D Pl hx => by
    obtain ⟨s, hc, _, _⟩ := DataW.trod_string Try.underlying9 hx
    simp only [List.cons.injEq, and_true] at hc
    obtain ⟨a, rfl⟩ : ∃ a, s = bs a := ⟨_, bs_of s⟩
    exact ⟨a, hc, fun μ => by rw [hc]; exact .string, by rw [hc]; rfl⟩
  have len1 : a1.length ≤ 9223372036854775807 := len10
  have r1 : ∀ s ∈ a1, s.length ≤ 140737488351232 := fun k hk => by
    obtain ⟨n, x, D, Pl, hx, rfl, el, sp, rfl, hm⟩ := mem1 k hk
    obtain ⟨s, hc, hD, _⟩ := DataW.trod_string Try.underlying9 hx
    simp only [enS, List.cons.injEq, and_true, Value.string.injEq] at hc
    obtain ⟨rfl, _⟩ := Prod.mk.inj hD
    have hw : k.length ∈ DataW.weightsAll Try.prog 9 el := weightsAll_mem hm (by rw [← hc]; simp [DataW.weights, bs_data])
    have := List.all_eq_true.1 hsz0 _ (DataW.weights_mem_each (j := 1) (t := 90) rfl rfl k.length (by
      show _ ∈ DataW.weights Try.prog 90 _
      simp only [DataW.weights, Try.underlying90, List.mem_cons, List.mem_append]
      exact .inr (.inl hw)))
    exact of_decide_eq_true this
  obtain ⟨cs2, ev2, len2, wf2⟩ := open_arrayK Try.underlying118 flat118 (hval 2 118 v2 rfl rfl) h2
  obtain ⟨a2, rfl, al2⟩ := hashes_of ev2 len2 wf2
  refine (law_calls g1x (lrel_cons .string (lrel_cons rel1 (lrel_cons (rel_flat _ (ubs a2) (ubs_ints a2)) (lrel_nil)))) (shaMacs_ok a0 a1 a2 al2 va1 _ sl1 r1 len1)).mono fun e W' ⟨he, bel⟩ => ?_
  subst he
  exact ⟨_, rfl, _, _, _, [], _, [], hW', trodAll_mk1 (shut_bool Try.underlying4 _), trodAll_keep laid bel (by kernel_rfl) hAk (fun x hx => by simpa using hW'.lt x (by simpa using hx)), rfl, bel.frame _, fun h => by cases h⟩
theorem joined : joinedFacts Try.pinned.checked.prog 18 Try.f18 Rows.shaMacsSpec Rows.shaMacsRow = true := by
  have b := begun
  simp only [Bool.and_eq_true] at b
  unfold joinedFacts
  have b1 : (Rows.shaMacsRow.lifted == Try.pinned.checked.prog.liftsFinal) = true := b.1.2
  have b2 : (Try.pinned.checked.prog.make == some Rows.shaMacsRow.make) = true := b.2
  simp only [b.1.1, b1, b2, Bool.and_true]
  simp only [Bool.and_eq_true]
  repeat' apply And.intro
  all_goals kernel_rfl
theorem over : Rows.shaMacsRow.holds Try.pinned (OpenSpec.ofChange Rows.shaMacsSpec) :=
  OpenClaim.holds_of_wide 18 Try.f18 rfl rfl rfl rfl rfl rfl rfl ⟨rfl, rfl, rfl, rfl, rfl⟩ rfl rfl rfl rfl rfl (by kernel_rfl) Try.func18 joined
    (of_decide_eq_true (by kernel_rfl)) (by unfold Func.isWrapper; first | (rw [if_pos (by decide +kernel)]; kernel_rfl) | (rw [if_neg (by decide +kernel)]; exact ⟨rfl, rfl⟩))
    (fun os started H enc _ => lifted os started H enc)
end Go.Proofs.Ythhhcpbkedikfaa.shaMacs
namespace Go.Proofs.Ythhhcpbkedikfaa
/-- The row. -/
theorem shaMacs_holds : Rows.ShaMacsSaid := shaMacs.over
end Go.Proofs.Ythhhcpbkedikfaa
