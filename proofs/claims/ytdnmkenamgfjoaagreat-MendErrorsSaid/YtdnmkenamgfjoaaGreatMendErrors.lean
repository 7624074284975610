/-
  MendErrors: the row of the law, with the package-level variables that it lists tied to the program: for every input the law returns true and its arguments read as before.
-/
import Derived.Test.YtdnmkenamgfjoaaGreatArbm
import Derived.Test.YtdnmkenamgfjoaaGreatBegun
import Derived.KernelRfl
import Derived.ProofKit
import Derived.OpenShut
import Derived.ShutString
import Derived.ChangeOld
import Derived.ChangeSame
import Derived.ChangeVars
import Derived.JoinedOf
import Derived.SizedLaws
import Derived.ChangeArms
import Derived.RowKitTokens
import Derived.LaidLaws
import Derived.Lay
import Derived.Stop.Joined
import Derived.SevenTiedAt
import Derived.MakeChecks
set_option linter.unusedSimpArgs false
set_option linter.unusedVariables false
namespace Go.Proofs.YtdnmkenamgfjoaaGreat.mendErrors
open Go Go.Ab Go.Proofs Go.RowKit Go.ChangeShapes Go.WideShapes Go.ChangeAt Go.Proofs.YtdnmkenamgfjoaaGreat.str Go.Proofs.YtdnmkenamgfjoaaGreat.vers Go.Proofs.YtdnmkenamgfjoaaGreat.lin1 Go.Proofs.YtdnmkenamgfjoaaGreat.sha Go.Proofs.YtdnmkenamgfjoaaGreat.arba Go.Proofs.YtdnmkenamgfjoaaGreat.arbb Go.Proofs.YtdnmkenamgfjoaaGreat.arbc Go.Proofs.YtdnmkenamgfjoaaGreat.arbd Go.Proofs.YtdnmkenamgfjoaaGreat.arbe Go.Proofs.YtdnmkenamgfjoaaGreat.arbf Go.Proofs.YtdnmkenamgfjoaaGreat.arbg Go.Proofs.YtdnmkenamgfjoaaGreat.arbi Go.Proofs.YtdnmkenamgfjoaaGreat.arbj Go.Proofs.YtdnmkenamgfjoaaGreat.arbk Go.Proofs.YtdnmkenamgfjoaaGreat.arbl Go.Proofs.YtdnmkenamgfjoaaGreat.arbm
theorem own : ownKnob Tryz.prog.godebug = none := by kernel_rfl
theorem laidOut : laidOutB Tryz.prog = true := by kernel_rfl
theorem okWide_any {P : Program} {w : World} {b b' : Nat} {t : TypeId} {v : Value} (h : Value.okWide P w .any b t v) : Value.okWide P w .any b' t v := h
set_option maxRecDepth 100000 in
theorem lifted (os : Os) (started : os.Started) (H : Type) (enc : TypeId × Value → H) :
    ReturnsInHanded {} Tryz.checked os 4 .any (Rows.mendErrorsSpec.pre6 enc Tryz.prog Tryz.f4 Rows.mendErrorsRow.domain false) (Rows.mendErrorsSpec.post enc Tryz.prog Tryz.f4 false true false false) := by
  refine returnsInHanded_of_change_sized (C := Tryz.checked) own started (by kernel_rfl) Tryz.func4
    (ChangeSpec.witness6 (enc := enc) (C := Tryz.checked) false ⟨#[], #[.agg #[.int .i64 0, .int .i64 0, .int .i64 0], .int .i64 0, .int .i64 0], []⟩ 8 (by kernel_rfl) (by kernel_rfl) (by kernel_rfl) (by kernel_rfl)) ?_
  intro W base args ds gs before hval0 hW hcnd hsz0 _
  letI : Inhabited TabBox := ⟨⟨fun _ => none⟩⟩
  haveI : Nonempty GF := ⟨⟨⟩⟩
  haveI : Nonempty GE := ⟨⟨⟩⟩
  have hG : GLaid W.heap.size W := fun g c e => by cases e
  have hval : ∀ (j : Nat) t v, Tryz.f4.params[j]? = some t → args[j]? = some v → Value.okWide Tryz.prog W .any base t v := hval0
  have hW' := hW
  obtain ⟨p, q, hA0, hV, rfl, hfz, hnd⟩ := hW
  have hA : DataW.TrodAll enc Tryz.prog W 0 (fun _ => true) true Tryz.f4.params.toList args.toList ds p := hA0
  have hAk := hA
  rw [Tryz.params4] at hA hval hAk
  obtain ⟨v0, vs0, d0, ds0, p0, q0, hargs, rfl, rfl, h0, r00⟩ := trodAll_cons hA
  obtain ⟨v1, vs1, d1, ds1, p1, q1, rfl, rfl, rfl, h1, r10⟩ := trodAll_cons r00
  obtain ⟨v2, vs2, d2, ds2, p2, q2, rfl, rfl, rfl, h2, r20⟩ := trodAll_cons r10
  obtain ⟨rfl, rfl, rfl⟩ := trodAll_nil r20
  obtain rfl : args = #[v0, v1, v2] := by cases args; simp_all
  obtain ⟨rfl, rfl⟩ := trodVars_none hV
  have g0 := Given.start W hG
  obtain ⟨xs0, rfl, len0, wf0⟩ := open_struct_ints (n := 3) Tryz.underlying23 (by kernel_rfl) (fun i hi => by
      match i, hi with
      | 0, _ => exact ⟨_, rfl, rfl, by kernel_rfl, Tryz.underlying3⟩
      | 1, _ => exact ⟨_, rfl, rfl, by kernel_rfl, Tryz.underlying3⟩
      | 2, _ => exact ⟨_, rfl, rfl, by kernel_rfl, Tryz.underlying3⟩) ⟨3, Tryz.underlying3, fun i hi f hf => by
      match i, hi with
      | 0, _ => cases hf; rfl
      | 1, _ => cases hf; rfl
      | 2, _ => cases hf; rfl⟩ (hval 0 23 v0 rfl rfl) h0
  obtain ⟨a0, b0, c0, rfl⟩ := len3 len0
  obtain ⟨a1, rfl, rfl, rfl, w1⟩ := open_int Tryz.underlying3 (hval 1 3 v1 rfl rfl) h1
  obtain ⟨a2, rfl, rfl, rfl, w2⟩ := open_int Tryz.underlying3 (hval 2 3 v2 rfl rfl) h2
  refine (law_calls g0 (lrel_cons (rel_ints _ .i64 [a0, b0, c0]) (lrel_cons .int (lrel_cons .int (lrel_nil)))) ((mendErrors_law a0 b0 c0 a1 a2 _).mono fun _ _ hh => hh.1)).mono fun e W' ⟨he, bel⟩ => ?_
  subst he
  exact ⟨_, rfl, _, _, _, [], _, [], hW', trodAll_mk1 (shut_bool Tryz.underlying4 _), trodAll_keep laidOut bel (by kernel_rfl) hAk (fun x hx => by simpa using hW'.lt x (by simpa using hx)), rfl, bel.frame _, fun h => by cases h⟩
theorem joined : joinedFacts Tryz.pinned.checked.prog 4 Tryz.f4 Rows.mendErrorsSpec Rows.mendErrorsRow = true := by
  have b := begun
  simp only [Bool.and_eq_true] at b
  unfold joinedFacts
  have b1 : (Rows.mendErrorsRow.lifted == Tryz.pinned.checked.prog.liftsFinal) = true := b.1.2
  have b2 : (Tryz.pinned.checked.prog.make == some Rows.mendErrorsRow.make) = true := b.2
  simp only [b.1.1, b1, b2, Bool.and_true]
  simp only [Bool.and_eq_true]
  repeat' apply And.intro
  all_goals kernel_rfl
theorem over : Rows.mendErrorsRow.holds Tryz.pinned (OpenSpec.ofChange Rows.mendErrorsSpec) :=
  OpenClaim.holds_of_wide 4 Tryz.f4 rfl rfl rfl rfl rfl rfl rfl ⟨rfl, rfl, rfl, rfl, rfl⟩ rfl rfl rfl rfl rfl (by kernel_rfl) Tryz.func4 joined
    (of_decide_eq_true (by kernel_rfl)) (by unfold Func.isWrapper; first | (rw [if_pos (by decide +kernel)]; kernel_rfl) | (rw [if_neg (by decide +kernel)]; exact ⟨rfl, rfl⟩))
    (fun os started H enc _ => lifted os started H enc)
end Go.Proofs.YtdnmkenamgfjoaaGreat.mendErrors
namespace Go.Proofs.YtdnmkenamgfjoaaGreat
/-- The row. -/
theorem mendErrors_holds : Rows.MendErrorsSaid := mendErrors.over
end Go.Proofs.YtdnmkenamgfjoaaGreat
