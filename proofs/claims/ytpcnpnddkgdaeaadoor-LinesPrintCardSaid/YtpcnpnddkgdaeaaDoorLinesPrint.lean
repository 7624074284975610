/-
  LinesPrint: the row of the law, with the package-level variables that it lists tied to the program: for every input the law returns true and its arguments read as before.
-/
import Derived.Test.YtpcnpnddkgdaeaaDoorLins
import Derived.Test.YtpcnpnddkgdaeaaDoorLaid
import Derived.Test.YtpcnpnddkgdaeaaDoorBegun
import Derived.Test.YtpcnpnddkgdaeaaDoorTie
import Derived.Test.YtpcnpnddkgdaeaaDoorCards
import Derived.KernelRfl
import Derived.ProofKit
import Derived.OpenShut
import Derived.ShutString
import Derived.ChangeOld
import Derived.ChangeSame
import Derived.ChangeVars
import Derived.JoinedOf
import Derived.SizedLaws
import Derived.ChangeArms
import Derived.RowKitTokens
import Derived.LaidLaws
import Derived.Lay
import Derived.Stop.Joined
import Derived.SevenTiedAt
import Derived.MakeChecks
set_option linter.unusedSimpArgs false
set_option linter.unusedVariables false
namespace Go.Proofs.YtpcnpnddkgdaeaaDoor.linesPrint
open Go Go.Ab Go.Proofs Go.RowKit Go.ChangeShapes Go.WideShapes Go.ChangeAt Go.Proofs.YtpcnpnddkgdaeaaDoor.str Go.Proofs.YtpcnpnddkgdaeaaDoor.vers Go.Proofs.YtpcnpnddkgdaeaaDoor.lins Go.Proofs.YtpcnpnddkgdaeaaDoor.laid
theorem own : ownKnob Tryd.prog.godebug = none := by kernel_rfl
theorem laidOut : laidOutB Tryd.prog = true := by kernel_rfl
theorem plainLaid {W : World} : laidMetH Tryd.prog Rows.linesPrintRow.laid W = laidMet Tryd.prog Rows.linesPrintRow.laid W := by
  unfold laidMetH
  rw [show (Rows.linesPrintRow.laid.filter fun x => x.2.handleName?.isSome) = [] by kernel_rfl]
theorem okWide_any {P : Program} {w : World} {b b' : Nat} {t : TypeId} {v : Value} (h : Value.okWide P w .any b t v) : Value.okWide P w .any b' t v := h
set_option maxRecDepth 100000 in
theorem lifted (os : Os) (started : os.Started) (H : Type) (enc : TypeId × Value → H) :
    ReturnsInHanded {} Tryd.checked os 6 .any (fun w args => (Rows.linesPrintSpec.pre enc Tryd.prog Tryd.f6 Rows.linesPrintRow.domain false w args ∧ laidMetH Tryd.prog Rows.linesPrintRow.laid w) ∧ sizedMet enc Tryd.prog Tryd.f6 (OpenSpec.ofChange Rows.linesPrintSpec) false w args)
      (Rows.linesPrintSpec.post enc Tryd.prog Tryd.f6 false true false false) := by
  refine returnsInHanded_of_change_and (C := Tryd.checked) (X := fun w _ => laidMetH Tryd.prog Rows.linesPrintRow.laid w) (fun _ _ _ hh h => h.of_heap hh) own started (by kernel_rfl) Tryd.func6
    (ChangeSpec.witness_shaped (enc := enc) (C := Tryd.checked) (os := os) (X := fun w _ => laidMetH Tryd.prog Rows.linesPrintRow.laid w) false (World.laidAll Tryd.prog os Rows.linesPrintRow.laid) #[.agg #[.int .i64 0, .int .i64 0, .string ⟨#[]⟩, .int .i64 0, .int .u8 0]] 8 (World.laidAll_os _ _ _)
      (World.shaped_of_ZipB (by kernel_rfl) (by kernel_rfl)) (by kernel_rfl) (by kernel_rfl) (by kernel_rfl)
      (by rw [plainLaid]; exact laidMet_laidAll _ (by kernel_rfl) (by kernel_rfl))) ?_
  intro W base args ds gs before hval0 hW hcnd hsz0 hL0 _
  have hL : laidMet Tryd.prog Rows.linesPrintRow.laid W := by
    have h := hL0
    rw [plainLaid] at h
    exact h
  letI : Inhabited TabBox := ⟨tabs⟩
  haveI : Nonempty GF := ⟨gf_tabs⟩
  have hG : GLaid W.heap.size W := glaid_of hL (by unfold Rows.linesPrintRow; simp) (by unfold Rows.linesPrintRow; simp) (by unfold Rows.linesPrintRow; simp)
  have hval : ∀ (j : Nat) t v, Tryd.f6.params[j]? = some t → args[j]? = some v → Value.okWide Tryd.prog W .any base t v := hval0
  have hW' := hW
  obtain ⟨p, q, hA0, hV, rfl, hfz, hnd⟩ := hW
  have hA : DataW.TrodAll enc Tryd.prog W 0 (fun _ => true) true Tryd.f6.params.toList args.toList ds p := hA0
  have hAk := hA
  rw [Tryd.params6] at hA hval hAk
  obtain ⟨v0, vs0, d0, ds0, p0, q0, hargs, rfl, rfl, h0, r00⟩ := trodAll_cons hA
  obtain ⟨rfl, rfl, rfl⟩ := trodAll_nil r00
  obtain rfl : args = #[v0] := by cases args; simp_all
  obtain ⟨rfl, rfl⟩ := trodVars_none hV
  have g0 := Given.start W hG
  obtain ⟨e0_, rfl, re0⟩ := open_event (hval 0 54 v0 rfl rfl) h0
  refine (law_calls g0 (lrel_cons (rel_event _ e0_) (lrel_nil)) ((linesPrint_law e0_ re0 _).mono fun _ _ hh => hh.1)).mono fun e W' ⟨he, bel⟩ => ?_
  subst he
  exact ⟨_, rfl, _, _, _, [], _, [], hW', trodAll_mk1 (shut_bool Tryd.underlying4 _), trodAll_keep laidOut bel (by kernel_rfl) hAk (fun x hx => by simpa using hW'.lt x (by simpa using hx)), rfl, bel.frame _, fun h => by cases h⟩
theorem joined : joinedFacts Tryd.pinned.checked.prog 6 Tryd.f6 Rows.linesPrintSpec Rows.linesPrintRow = true := by
  have b := begun
  simp only [Bool.and_eq_true] at b
  unfold joinedFacts
  have b1 : (Rows.linesPrintRow.lifted == Tryd.pinned.checked.prog.liftsFinal) = true := b.1.2
  have b2 : (Tryd.pinned.checked.prog.make == some Rows.linesPrintRow.make) = true := b.2
  simp only [b.1.1, b1, b2, Bool.and_true]
  simp only [Bool.and_eq_true]
  repeat' apply And.intro
  all_goals kernel_rfl
theorem over : Rows.linesPrintRow.holds Tryd.pinned (OpenSpec.ofChange Rows.linesPrintSpec) :=
  OpenClaim.holds_of_wide 6 Tryd.f6 rfl rfl rfl rfl rfl rfl rfl ⟨rfl, rfl, rfl, rfl, rfl⟩ rfl rfl rfl rfl rfl (by kernel_rfl) Tryd.func6 joined
    (of_decide_eq_true (by kernel_rfl)) (by unfold Func.isWrapper; first | (rw [if_pos (by decide +kernel)]; kernel_rfl) | (rw [if_neg (by decide +kernel)]; exact ⟨rfl, rfl⟩))
    (fun os started H enc _ => lifted os started H enc)
theorem plain (f : FuncId) (fn : Func) (hf : Tryd.pinned.checked.prog.funcNamed "triptych/triptychlaw28.LinesPrint" = some f) (hfn : Tryd.pinned.checked.prog.funcs[f]? = some fn) :
    true = Tryd.pinned.checked.prog.looks [] ∧ ∀ (j : Nat) t, fn.params[j]? = some t → Tryd.pinned.checked.prog.wantsStandIn t = false := by
  obtain rfl : f = 6 := Option.some.inj ((show Tryd.prog.funcNamed "triptych/triptychlaw28.LinesPrint" = some 6 by kernel_rfl).symm.trans hf) |>.symm
  obtain rfl : fn = Tryd.f6 := (Option.some.inj (Tryd.func6.symm.trans hfn)).symm
  refine ⟨by kernel_rfl, fun j t ht => ?_⟩
  rw [Tryd.params6] at ht
  have hm : t ∈ [54] := by simpa using Array.mem_of_getElem? ht
  have hall : ([54].all fun u => !Tryd.prog.wantsStandIn u) = true := by kernel_rfl
  exact (show Tryd.prog.wantsStandIn t = false by simpa using List.all_eq_true.1 hall t hm)
end Go.Proofs.YtpcnpnddkgdaeaaDoor.linesPrint
namespace Go.Proofs.YtpcnpnddkgdaeaaDoor
/-- The card. -/
theorem linesPrint_holds : Rows.LinesPrintCardSaid :=
  Claim7.holds_tied_plain_at .later [] _ _ _ _ linesPrint.over (fun _ h => by cases h) (by kernel_rfl) (fun _ h => by cases h) linesPrint_row_tie rfl ⟨rfl, rfl⟩ (by kernel_rfl) rfl linesPrint.plain (by kernel_rfl)
end Go.Proofs.YtpcnpnddkgdaeaaDoor
