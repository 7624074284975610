/-
  MetaTexts: the row of the law, with the package-level variables that it lists tied to the program: for every input the law returns true and its arguments read as before.
-/
import Derived.Test.YtofoihlcjmghfaaGreatDoorMetx
import Derived.Test.YtofoihlcjmghfaaGreatDoorLaidES
import Derived.Test.YtofoihlcjmghfaaGreatDoorBegun
import Derived.Test.YtofoihlcjmghfaaGreatDoorTie
import Derived.Test.YtofoihlcjmghfaaGreatDoorCards
import Derived.KernelRfl
import Derived.ProofKit
import Derived.OpenShut
import Derived.ShutString
import Derived.ChangeOld
import Derived.ChangeSame
import Derived.ChangeVars
import Derived.JoinedOf
import Derived.SizedLaws
import Derived.ChangeArms
import Derived.RowKitTokens
import Derived.LaidLaws
import Derived.Lay
import Derived.Stop.Joined
import Derived.SevenTiedAt
import Derived.MakeChecks
set_option linter.unusedSimpArgs false
set_option linter.unusedVariables false
namespace Go.Proofs.YtofoihlcjmghfaaGreatDoor.metaTexts
open Go Go.Ab Go.Proofs Go.RowKit Go.ChangeShapes Go.WideShapes Go.ChangeAt Go.Proofs.YtofoihlcjmghfaaGreatDoor.str Go.Proofs.YtofoihlcjmghfaaGreatDoor.vers Go.Proofs.YtofoihlcjmghfaaGreatDoor.lin1 Go.Proofs.YtofoihlcjmghfaaGreatDoor.flds Go.Proofs.YtofoihlcjmghfaaGreatDoor.mets Go.Proofs.YtofoihlcjmghfaaGreatDoor.metx Go.Proofs.YtofoihlcjmghfaaGreatDoor.laides
theorem own : ownKnob Tryz.prog.godebug = none := by kernel_rfl
theorem laidOut : laidOutB Tryz.prog = true := by kernel_rfl
theorem plainLaid {W : World} : laidMetH Tryz.prog Rows.metaTextsRow.laid W = laidMet Tryz.prog Rows.metaTextsRow.laid W := by
  unfold laidMetH
  rw [show (Rows.metaTextsRow.laid.filter fun x => x.2.handleName?.isSome) = [] by kernel_rfl]
theorem okWide_any {P : Program} {w : World} {b b' : Nat} {t : TypeId} {v : Value} (h : Value.okWide P w .any b t v) : Value.okWide P w .any b' t v := h
set_option maxRecDepth 100000 in
theorem lifted (os : Os) (started : os.Started) (H : Type) (enc : TypeId × Value → H) :
    ReturnsInHanded {} Tryz.checked os 4 .any (fun w args => (Rows.metaTextsSpec.pre enc Tryz.prog Tryz.f4 Rows.metaTextsRow.domain false w args ∧ laidMetH Tryz.prog Rows.metaTextsRow.laid w) ∧ sizedMet enc Tryz.prog Tryz.f4 (OpenSpec.ofChange Rows.metaTextsSpec) false w args)
      (Rows.metaTextsSpec.post enc Tryz.prog Tryz.f4 false true false false) := by
  refine returnsInHanded_of_change_and (C := Tryz.checked) (X := fun w _ => laidMetH Tryz.prog Rows.metaTextsRow.laid w) (fun _ _ _ hh h => h.of_heap hh) own started (by kernel_rfl) Tryz.func4
    (ChangeSpec.witness_shaped (enc := enc) (C := Tryz.checked) (os := os) (X := fun w _ => laidMetH Tryz.prog Rows.metaTextsRow.laid w) false (World.laidAll Tryz.prog os Rows.metaTextsRow.laid) #[.agg #[.int .i64 0, .int .i64 0, .int .i64 0, .int .i64 0, .int .i64 0, .int .i64 0, .int .i64 0, .int .i64 0, .int .i64 0, .int .i64 0, .int .i64 0, .int .i64 0, .int .i64 0]] 8 (World.laidAll_os _ _ _)
      (World.shaped_of_ZipB (by kernel_rfl) (by kernel_rfl)) (by kernel_rfl) (by kernel_rfl) (by kernel_rfl)
      (by rw [plainLaid]; exact laidMet_laidAll _ (by kernel_rfl) (by kernel_rfl))) ?_
  intro W base args ds gs before hval0 hW hcnd hsz0 hL0 _
  have hL : laidMet Tryz.prog Rows.metaTextsRow.laid W := by
    have h := hL0
    rw [plainLaid] at h
    exact h
  letI : Inhabited TabBox := ⟨tabs⟩
  haveI : Nonempty GF := ⟨gf_tabs⟩
  haveI : Nonempty GE := ⟨ge_tabs⟩
  haveI : Nonempty GA := ⟨ga_tabs⟩
  have hG : GLaid W.heap.size W := glaid_of hL (by unfold Rows.metaTextsRow; simp) (by unfold Rows.metaTextsRow; simp) (by unfold Rows.metaTextsRow; simp) (by unfold Rows.metaTextsRow; simp)
  have hval : ∀ (j : Nat) t v, Tryz.f4.params[j]? = some t → args[j]? = some v → Value.okWide Tryz.prog W .any base t v := hval0
  have hW' := hW
  obtain ⟨p, q, hA0, hV, rfl, hfz, hnd⟩ := hW
  have hA : DataW.TrodAll enc Tryz.prog W 0 (fun _ => true) true Tryz.f4.params.toList args.toList ds p := hA0
  have hAk := hA
  rw [Tryz.params4] at hA hval hAk
  obtain ⟨v0, vs0, d0, ds0, p0, q0, hargs, rfl, rfl, h0, r00⟩ := trodAll_cons hA
  obtain ⟨rfl, rfl, rfl⟩ := trodAll_nil r00
  obtain rfl : args = #[v0] := by cases args; simp_all
  obtain ⟨rfl, rfl⟩ := trodVars_none hV
  have g0 := Given.start W hG
  obtain ⟨xs0, rfl, len0, wf0⟩ := open_flat (n := 13) Tryz.underlying55 (by kernel_rfl) flatMeta (hval 0 55 v0 rfl rfl) h0
  obtain ⟨m0_, rfl⟩ := len13 len0
  refine (law_calls g0 (lrel_cons (rel_ints _ .i64 m0_.l) (lrel_nil)) ((metaTexts_law m0_ _).mono fun _ _ hh => hh.1)).mono fun e W' ⟨he, bel⟩ => ?_
  subst he
  exact ⟨_, rfl, _, _, _, [], _, [], hW', trodAll_mk1 (shut_bool Tryz.underlying4 _), trodAll_keep laidOut bel (by kernel_rfl) hAk (fun x hx => by simpa using hW'.lt x (by simpa using hx)), rfl, bel.frame _, fun h => by cases h⟩
theorem joined : joinedFacts Tryz.pinned.checked.prog 4 Tryz.f4 Rows.metaTextsSpec Rows.metaTextsRow = true := by
  have b := begun
  simp only [Bool.and_eq_true] at b
  unfold joinedFacts
  have b1 : (Rows.metaTextsRow.lifted == Tryz.pinned.checked.prog.liftsFinal) = true := b.1.2
  have b2 : (Tryz.pinned.checked.prog.make == some Rows.metaTextsRow.make) = true := b.2
  simp only [b.1.1, b1, b2, Bool.and_true]
  simp only [Bool.and_eq_true]
  repeat' apply And.intro
  all_goals kernel_rfl
theorem over : Rows.metaTextsRow.holds Tryz.pinned (OpenSpec.ofChange Rows.metaTextsSpec) :=
  OpenClaim.holds_of_wide 4 Tryz.f4 rfl rfl rfl rfl rfl rfl rfl ⟨rfl, rfl, rfl, rfl, rfl⟩ rfl rfl rfl rfl rfl (by kernel_rfl) Tryz.func4 joined
    (of_decide_eq_true (by kernel_rfl)) (by unfold Func.isWrapper; first | (rw [if_pos (by decide +kernel)]; kernel_rfl) | (rw [if_neg (by decide +kernel)]; exact ⟨rfl, rfl⟩))
    (fun os started H enc _ => lifted os started H enc)
theorem plain (f : FuncId) (fn : Func) (hf : Tryz.pinned.checked.prog.funcNamed "triptych/triptychlaw17.MetaTexts" = some f) (hfn : Tryz.pinned.checked.prog.funcs[f]? = some fn) :
    true = Tryz.pinned.checked.prog.looks [] ∧ ∀ (j : Nat) t, fn.params[j]? = some t → Tryz.pinned.checked.prog.wantsStandIn t = false := by
  obtain rfl : f = 4 := Option.some.inj ((show Tryz.prog.funcNamed "triptych/triptychlaw17.MetaTexts" = some 4 by kernel_rfl).symm.trans hf) |>.symm
  obtain rfl : fn = Tryz.f4 := (Option.some.inj (Tryz.func4.symm.trans hfn)).symm
  refine ⟨by kernel_rfl, fun j t ht => ?_⟩
  rw [Tryz.params4] at ht
  have hm : t ∈ [55] := by simpa using Array.mem_of_getElem? ht
  have hall : ([55].all fun u => !Tryz.prog.wantsStandIn u) = true := by kernel_rfl
  exact (show Tryz.prog.wantsStandIn t = false by simpa using List.all_eq_true.1 hall t hm)
end Go.Proofs.YtofoihlcjmghfaaGreatDoor.metaTexts
namespace Go.Proofs.YtofoihlcjmghfaaGreatDoor
/-- The card. -/
theorem metaTexts_holds : Rows.MetaTextsCardSaid :=
  Claim7.holds_tied_plain_at .later [] _ _ _ _ metaTexts.over (fun _ h => by cases h) (by kernel_rfl) (fun _ h => by cases h) metaTexts_row_tie rfl ⟨rfl, rfl⟩ (by kernel_rfl) rfl metaTexts.plain (by kernel_rfl)
end Go.Proofs.YtofoihlcjmghfaaGreatDoor
