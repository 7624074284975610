/-
  AreaCopies: the row of the law, with the package-level variables that it lists tied to the program: for every input the law returns true and its arguments read as before.
-/
import Derived.Test.YtdnmkenamgfjoaaGreatArbn
import Derived.Test.YtdnmkenamgfjoaaGreatBegun
import Derived.KernelRfl
import Derived.ProofKit
import Derived.OpenShut
import Derived.ShutString
import Derived.ChangeOld
import Derived.ChangeSame
import Derived.ChangeVars
import Derived.JoinedOf
import Derived.SizedLaws
import Derived.ChangeArms
import Derived.RowKitTokens
import Derived.LaidLaws
import Derived.Lay
import Derived.Stop.Joined
import Derived.SevenTiedAt
import Derived.MakeChecks
set_option linter.unusedSimpArgs false
set_option linter.unusedVariables false
namespace Go.Proofs.YtdnmkenamgfjoaaGreat.areaCopies
open Go Go.Ab Go.Proofs Go.RowKit Go.ChangeShapes Go.WideShapes Go.ChangeAt Go.Proofs.YtdnmkenamgfjoaaGreat.str Go.Proofs.YtdnmkenamgfjoaaGreat.vers Go.Proofs.YtdnmkenamgfjoaaGreat.lin1 Go.Proofs.YtdnmkenamgfjoaaGreat.sha Go.Proofs.YtdnmkenamgfjoaaGreat.arba Go.Proofs.YtdnmkenamgfjoaaGreat.arbb Go.Proofs.YtdnmkenamgfjoaaGreat.arbc Go.Proofs.YtdnmkenamgfjoaaGreat.arbd Go.Proofs.YtdnmkenamgfjoaaGreat.arbe Go.Proofs.YtdnmkenamgfjoaaGreat.arbf Go.Proofs.YtdnmkenamgfjoaaGreat.arbg Go.Proofs.YtdnmkenamgfjoaaGreat.arbi Go.Proofs.YtdnmkenamgfjoaaGreat.arbj Go.Proofs.YtdnmkenamgfjoaaGreat.arbk Go.Proofs.YtdnmkenamgfjoaaGreat.arbl Go.Proofs.YtdnmkenamgfjoaaGreat.arbm Go.Proofs.YtdnmkenamgfjoaaGreat.arbn
theorem own : ownKnob Tryz.prog.godebug = none := by kernel_rfl
theorem laidOut : laidOutB Tryz.prog = true := by kernel_rfl
theorem okWide_any {P : Program} {w : World} {b b' : Nat} {t : TypeId} {v : Value} (h : Value.okWide P w .any b t v) : Value.okWide P w .any b' t v := h
set_option maxRecDepth 100000 in
theorem lifted (os : Os) (started : os.Started) (H : Type) (enc : TypeId × Value → H) :
    ReturnsInHanded {} Tryz.checked os 7 .any (Rows.areaCopiesSpec.pre6 enc Tryz.prog Tryz.f7 Rows.areaCopiesRow.domain false) (Rows.areaCopiesSpec.post enc Tryz.prog Tryz.f7 false true false false) := by
  refine returnsInHanded_of_change_sized (C := Tryz.checked) own started (by kernel_rfl) Tryz.func7
    (ChangeSpec.witness6 (enc := enc) (C := Tryz.checked) false ⟨#[], #[.agg #[.int .i64 0, .int .i64 0, .int .i64 0], .string ⟨#[]⟩, .slice none 0 0], []⟩ 8 (by kernel_rfl) (by kernel_rfl) (by kernel_rfl) (by kernel_rfl)) ?_
  intro W base args ds gs before hval0 hW hcnd hsz0 _
  letI : Inhabited TabBox := ⟨⟨fun _ => none⟩⟩
  haveI : Nonempty GF := ⟨⟨⟩⟩
  haveI : Nonempty GE := ⟨⟨⟩⟩
  have hG : GLaid W.heap.size W := fun g c e => by cases e
  have hval : ∀ (j : Nat) t v, Tryz.f7.params[j]? = some t → args[j]? = some v → Value.okWide Tryz.prog W .any base t v := hval0
  have hW' := hW
  obtain ⟨p, q, hA0, hV, rfl, hfz, hnd⟩ := hW
  have hA : DataW.TrodAll enc Tryz.prog W 0 (fun _ => true) true Tryz.f7.params.toList args.toList ds p := hA0
  have hAk := hA
  rw [Tryz.params7] at hA hval hAk
  obtain ⟨v0, vs0, d0, ds0, p0, q0, hargs, rfl, rfl, h0, r00⟩ := trodAll_cons hA
  obtain ⟨v1, vs1, d1, ds1, p1, q1, rfl, rfl, rfl, h1, r10⟩ := trodAll_cons r00
  obtain ⟨v2, vs2, d2, ds2, p2, q2, rfl, rfl, rfl, h2, r20⟩ := trodAll_cons r10
  obtain ⟨rfl, rfl, rfl⟩ := trodAll_nil r20
  obtain rfl : args = #[v0, v1, v2] := by cases args; simp_all
  obtain ⟨rfl, rfl⟩ := trodVars_none hV
  have g0 := Given.start W hG
  obtain ⟨xs0, rfl, len0, wf0⟩ := open_struct_ints (n := 3) Tryz.underlying23 (by kernel_rfl) (fun i hi => by
      match i, hi with
      | 0, _ => exact ⟨_, rfl, rfl, by kernel_rfl, Tryz.underlying3⟩
      | 1, _ => exact ⟨_, rfl, rfl, by kernel_rfl, Tryz.underlying3⟩
      | 2, _ => exact ⟨_, rfl, rfl, by kernel_rfl, Tryz.underlying3⟩) ⟨3, Tryz.underlying3, fun i hi f hf => by
      match i, hi with
      | 0, _ => cases hf; rfl
      | 1, _ => cases hf; rfl
      | 2, _ => cases hf; rfl⟩ (hval 0 23 v0 rfl rfl) h0
  obtain ⟨a0, b0, c0, rfl⟩ := len3 len0
  obtain ⟨s1, rfl⟩ := okWide_string Tryz.underlying9 (hval 1 9 v1 rfl rfl)
  obtain ⟨a1, rfl⟩ : ∃ a1, s1 = bs a1 := ⟨_, bs_of s1⟩
  obtain ⟨μ2, hh2, va2, l2, g2x, leμ2, leh2, rel2, sr2, wf2⟩ := rots_in g0 (okWide_any (hval 2 24 v2 rfl rfl)) h2
  refine (law_calls g2x (lrel_cons (rel_ints _ .i64 [a0, b0, c0]) (lrel_cons .string (lrel_cons rel2 (lrel_nil)))) ((areaCopies_law a0 b0 c0 a1 l2 va2 _ sr2 wf2).mono fun _ _ hh => hh.1)).mono fun e W' ⟨he, bel⟩ => ?_
  subst he
  exact ⟨_, rfl, _, _, _, [], _, [], hW', trodAll_mk1 (shut_bool Tryz.underlying4 _), trodAll_keep laidOut bel (by kernel_rfl) hAk (fun x hx => by simpa using hW'.lt x (by simpa using hx)), rfl, bel.frame _, fun h => by cases h⟩
theorem joined : joinedFacts Tryz.pinned.checked.prog 7 Tryz.f7 Rows.areaCopiesSpec Rows.areaCopiesRow = true := by
  have b := begun
  simp only [Bool.and_eq_true] at b
  unfold joinedFacts
  have b1 : (Rows.areaCopiesRow.lifted == Tryz.pinned.checked.prog.liftsFinal) = true := b.1.2
  have b2 : (Tryz.pinned.checked.prog.make == some Rows.areaCopiesRow.make) = true := b.2
  simp only [b.1.1, b1, b2, Bool.and_true]
  simp only [Bool.and_eq_true]
  repeat' apply And.intro
  all_goals kernel_rfl
theorem over : Rows.areaCopiesRow.holds Tryz.pinned (OpenSpec.ofChange Rows.areaCopiesSpec) :=
  OpenClaim.holds_of_wide 7 Tryz.f7 rfl rfl rfl rfl rfl rfl rfl ⟨rfl, rfl, rfl, rfl, rfl⟩ rfl rfl rfl rfl rfl (by kernel_rfl) Tryz.func7 joined
    (of_decide_eq_true (by kernel_rfl)) (by unfold Func.isWrapper; first | (rw [if_pos (by decide +kernel)]; kernel_rfl) | (rw [if_neg (by decide +kernel)]; exact ⟨rfl, rfl⟩))
    (fun os started H enc _ => lifted os started H enc)
end Go.Proofs.YtdnmkenamgfjoaaGreat.areaCopies
namespace Go.Proofs.YtdnmkenamgfjoaaGreat
/-- The row. -/
theorem areaCopies_holds : Rows.AreaCopiesSaid := areaCopies.over
end Go.Proofs.YtdnmkenamgfjoaaGreat
