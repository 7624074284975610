/-
  ShaSums: the row.
-/
import Derived.Test.YthhhcpbkedikfaaShas
import Derived.Test.YthhhcpbkedikfaaBegun
import Derived.KernelRfl
import Derived.ProofKit
import Derived.OpenShut
import Derived.ShutString
import Derived.ChangeOld
import Derived.SizedLaws
import Derived.ChangeArms
set_option linter.unusedSimpArgs false
set_option linter.unusedVariables false
namespace Go.Proofs.Ythhhcpbkedikfaa.shaSums
open Go Go.Ab Go.Proofs Go.RowKit Go.ChangeShapes Go.WideShapes Go.ChangeAt Go.Proofs.Ythhhcpbkedikfaa.shas Go.Proofs.Ythhhcpbkedikfaa.num Go.Proofs.Ythhhcpbkedikfaa.sha Go.Proofs.Ythhhcpbkedikfaa.head Go.Proofs.Ythhhcpbkedikfaa.shar Go.Proofs.Ythhhcpbkedikfaa.shaw
theorem own : ownKnob Try.prog.godebug = none := by kernel_rfl
theorem laid : laidOutB Try.prog = true := by kernel_rfl
theorem okWide_any {P : Program} {w : World} {b b' : Nat} {t : TypeId} {v : Value} (h : Value.okWide P w .any b t v) : Value.okWide P w .any b' t v := h
theorem u8_range {n : Int} (h : (Lit.int .u8 n).wf = true) : 0 ≤ n ∧ n < 256 := by
  have := bounds_u8 h
  omega
theorem int_range {n : Int} (h : (Lit.int .i64 n).wf = true) : n < 9223372036854775808 ∧ -9223372036854775808 ≤ n := by
  simp [Lit.wf, IntKind.min, IntKind.max, IntKind.signed, IntKind.bits] at h
  omega
set_option maxRecDepth 100000 in
theorem lifted (os : Os) (started : os.Started) (H : Type) (enc : TypeId × Value → H) :
    ReturnsInHanded {} Try.checked os 15 .any (Rows.shaSumsSpec.pre6 enc Try.prog Try.f15 Rows.shaSumsRow.domain false) (Rows.shaSumsSpec.post enc Try.prog Try.f15 false true false false) := by
  refine returnsInHanded_of_change_sized (C := Try.checked) own started (by kernel_rfl) Try.func15
    (ChangeSpec.witness6 (enc := enc) (C := Try.checked) false ⟨#[], #[.slice none 0 0], []⟩ 8 (by kernel_rfl) (by kernel_rfl) (by kernel_rfl) (by kernel_rfl)) ?_
  intro W base args ds gs before hval0 hW hcnd hsz0 _
  have hval : ∀ (j : Nat) t v, Try.f15.params[j]? = some t → args[j]? = some v → Value.okWide Try.prog W .any base t v := hval0
  have hW' := hW
  obtain ⟨p, q, hA0, hV, rfl, hfz, hnd⟩ := hW
  have hA : DataW.TrodAll enc Try.prog W 0 (fun _ => true) true Try.f15.params.toList args.toList ds p := hA0
  have hAk := hA
  rw [Try.params15] at hA hval hAk
  obtain ⟨v0, vs0, d0, ds0, p0, q0, hargs, rfl, rfl, h0, r00⟩ := trodAll_cons hA
  obtain ⟨rfl, rfl, rfl⟩ := trodAll_nil r00
  obtain rfl : args = #[v0] := by cases args; simp_all
  obtain ⟨rfl, rfl⟩ := trodVars_none hV
  have g0 := Given.start W
  obtain ⟨μ0, hh0, va0, a0, g0x, leμ0, leh0, rel0, sl0, len00, mem0⟩ := g0.slice (ev := enS) Try.underlying90 (by kernel_rfl) (okWide_any (hval 0 90 v0 rfl rfl)) h0 fun n x D Pl hx => by
    obtain ⟨s, hc, _, _⟩ := DataW.trod_string Try.underlying9 hx
    simp only [List.cons.injEq, and_true] at hc
    obtain ⟨a, rfl⟩ : ∃ a, s = bs a := ⟨_, bs_of s⟩
    exact ⟨a, hc, fun μ => by rw [hc]; exact .string, by rw [hc]; rfl⟩
  have len0 : a0.length ≤ 9223372036854775807 := len00
  have r0 : ∀ s ∈ a0, s.length ≤ 140737488351232 := fun k hk => by
    obtain ⟨n, x, D, Pl, hx, rfl, el, sp, rfl, hm⟩ := mem0 k hk
    obtain ⟨s, hc, hD, _⟩ := DataW.trod_string Try.underlying9 hx
    simp only [enS, List.cons.injEq, and_true, Value.string.injEq] at hc
    obtain ⟨rfl, _⟩ := Prod.mk.inj hD
    have hw : k.length ∈ DataW.weightsAll Try.prog 9 el := weightsAll_mem hm (by rw [← hc]; simp [DataW.weights, bs_data])
    have := List.all_eq_true.1 hsz0 _ (DataW.weights_mem_each (j := 0) (t := 90) rfl rfl k.length (by
      show _ ∈ DataW.weights Try.prog 90 _
      simp only [DataW.weights, Try.underlying90, List.mem_cons, List.mem_append]
      exact .inr (.inl hw)))
    exact of_decide_eq_true this
  refine (law_calls g0x (lrel_cons rel0 (lrel_nil)) (shaSums_ok a0 va0 _ sl0 r0 len0)).mono fun e W' ⟨he, bel⟩ => ?_
  subst he
  exact ⟨_, rfl, _, _, _, [], _, [], hW', trodAll_mk1 (shut_bool Try.underlying4 _), trodAll_keep laid bel (by kernel_rfl) hAk (fun x hx => by simpa using hW'.lt x (by simpa using hx)), rfl, bel.frame _, fun h => by cases h⟩
theorem joined : joinedFacts Try.pinned.checked.prog 15 Try.f15 Rows.shaSumsSpec Rows.shaSumsRow = true := by
  have b := begun
  simp only [Bool.and_eq_true] at b
  unfold joinedFacts
  have b1 : (Rows.shaSumsRow.lifted == Try.pinned.checked.prog.liftsFinal) = true := b.1.2
  have b2 : (Try.pinned.checked.prog.make == some Rows.shaSumsRow.make) = true := b.2
  simp only [b.1.1, b1, b2, Bool.and_true]
  simp only [Bool.and_eq_true]
  repeat' apply And.intro
  all_goals kernel_rfl
theorem over : Rows.shaSumsRow.holds Try.pinned (OpenSpec.ofChange Rows.shaSumsSpec) :=
  OpenClaim.holds_of_wide 15 Try.f15 rfl rfl rfl rfl rfl rfl rfl ⟨rfl, rfl, rfl, rfl, rfl⟩ rfl rfl rfl rfl rfl (by kernel_rfl) Try.func15 joined
    (of_decide_eq_true (by kernel_rfl)) (by unfold Func.isWrapper; first | (rw [if_pos (by decide +kernel)]; kernel_rfl) | (rw [if_neg (by decide +kernel)]; exact ⟨rfl, rfl⟩))
    (fun os started H enc _ => lifted os started H enc)
end Go.Proofs.Ythhhcpbkedikfaa.shaSums
namespace Go.Proofs.Ythhhcpbkedikfaa
/-- The row. -/
theorem shaSums_holds : Rows.ShaSumsSaid := shaSums.over
end Go.Proofs.Ythhhcpbkedikfaa
