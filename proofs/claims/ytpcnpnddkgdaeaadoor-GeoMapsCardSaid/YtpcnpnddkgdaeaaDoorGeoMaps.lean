/-
  GeoMaps: the row of the law, with the package-level variables that it lists tied to the program: for every input the law returns true and its arguments read as before.
-/
import Derived.Test.YtpcnpnddkgdaeaaDoorGeom
import Derived.Test.YtpcnpnddkgdaeaaDoorLaidS
import Derived.Test.YtpcnpnddkgdaeaaDoorBegun
import Derived.Test.YtpcnpnddkgdaeaaDoorTie
import Derived.Test.YtpcnpnddkgdaeaaDoorCards
import Derived.KernelRfl
import Derived.ProofKit
import Derived.OpenShut
import Derived.ShutString
import Derived.ChangeOld
import Derived.ChangeSame
import Derived.ChangeVars
import Derived.JoinedOf
import Derived.SizedLaws
import Derived.ChangeArms
import Derived.RowKitTokens
import Derived.LaidLaws
import Derived.Lay
import Derived.Stop.Joined
import Derived.SevenTiedAt
import Derived.MakeChecks
set_option linter.unusedSimpArgs false
set_option linter.unusedVariables false
namespace Go.Proofs.YtpcnpnddkgdaeaaDoor.geoMaps
open Go Go.Ab Go.Proofs Go.RowKit Go.ChangeShapes Go.WideShapes Go.ChangeAt Go.Proofs.YtpcnpnddkgdaeaaDoor.str Go.Proofs.YtpcnpnddkgdaeaaDoor.geom Go.Proofs.YtpcnpnddkgdaeaaDoor.laids
theorem own : ownKnob Tryd.prog.godebug = none := by kernel_rfl
theorem laidOut : laidOutB Tryd.prog = true := by kernel_rfl
theorem plainLaid {W : World} : laidMetH Tryd.prog Rows.geoMapsRow.laid W = laidMet Tryd.prog Rows.geoMapsRow.laid W := by
  unfold laidMetH
  rw [show (Rows.geoMapsRow.laid.filter fun x => x.2.handleName?.isSome) = [] by kernel_rfl]
theorem okWide_any {P : Program} {w : World} {b b' : Nat} {t : TypeId} {v : Value} (h : Value.okWide P w .any b t v) : Value.okWide P w .any b' t v := h
set_option maxRecDepth 100000 in
theorem lifted (os : Os) (started : os.Started) (H : Type) (enc : TypeId × Value → H) :
    ReturnsInHanded {} Tryd.checked os 3 .any (fun w args => (Rows.geoMapsSpec.pre enc Tryd.prog Tryd.f3 Rows.geoMapsRow.domain false w args ∧ laidMetH Tryd.prog Rows.geoMapsRow.laid w) ∧ sizedMet enc Tryd.prog Tryd.f3 (OpenSpec.ofChange Rows.geoMapsSpec) false w args)
      (Rows.geoMapsSpec.post enc Tryd.prog Tryd.f3 false true false false) := by
  refine returnsInHanded_of_change_and (C := Tryd.checked) (X := fun w _ => laidMetH Tryd.prog Rows.geoMapsRow.laid w) (fun _ _ _ hh h => h.of_heap hh) own started (by kernel_rfl) Tryd.func3
    (ChangeSpec.witness_shaped (enc := enc) (C := Tryd.checked) (os := os) (X := fun w _ => laidMetH Tryd.prog Rows.geoMapsRow.laid w) false (World.laidAll Tryd.prog os Rows.geoMapsRow.laid) #[.agg #[.int .i64 0, .int .i64 0, .int .i64 0]] 8 (World.laidAll_os _ _ _)
      (World.shaped_of_ZipB (by kernel_rfl) (by kernel_rfl)) (by kernel_rfl) (by kernel_rfl) (by kernel_rfl)
      (by rw [plainLaid]; exact laidMet_laidAll _ (by kernel_rfl) (by kernel_rfl))) ?_
  intro W base args ds gs before hval0 hW hcnd hsz0 hL0 _
  have hL : laidMet Tryd.prog Rows.geoMapsRow.laid W := by
    have h := hL0
    rw [plainLaid] at h
    exact h
  letI : Inhabited TabBox := ⟨tabs⟩
  haveI : Nonempty GF := ⟨gf_tabs⟩
  haveI : Nonempty GA := ⟨ga_tabs⟩
  have hG : GLaid W.heap.size W := glaid_of hL (by unfold Rows.geoMapsRow; simp) (by unfold Rows.geoMapsRow; simp)
  have hval : ∀ (j : Nat) t v, Tryd.f3.params[j]? = some t → args[j]? = some v → Value.okWide Tryd.prog W .any base t v := hval0
  have hW' := hW
  obtain ⟨p, q, hA0, hV, rfl, hfz, hnd⟩ := hW
  have hA : DataW.TrodAll enc Tryd.prog W 0 (fun _ => true) true Tryd.f3.params.toList args.toList ds p := hA0
  have hAk := hA
  rw [Tryd.params3] at hA hval hAk
  obtain ⟨v0, vs0, d0, ds0, p0, q0, hargs, rfl, rfl, h0, r00⟩ := trodAll_cons hA
  obtain ⟨rfl, rfl, rfl⟩ := trodAll_nil r00
  obtain rfl : args = #[v0] := by cases args; simp_all
  obtain ⟨rfl, rfl⟩ := trodVars_none hV
  have g0 := Given.start W hG
  obtain ⟨xs0, rfl, len0, wf0⟩ := open_struct_ints (n := 3) Tryd.underlying23 (by kernel_rfl) (fun i hi => by
      match i, hi with
      | 0, _ => exact ⟨_, rfl, rfl, by kernel_rfl, Tryd.underlying3⟩
      | 1, _ => exact ⟨_, rfl, rfl, by kernel_rfl, Tryd.underlying3⟩
      | 2, _ => exact ⟨_, rfl, rfl, by kernel_rfl, Tryd.underlying3⟩) ⟨3, Tryd.underlying3, fun i hi f hf => by
      match i, hi with
      | 0, _ => cases hf; rfl
      | 1, _ => cases hf; rfl
      | 2, _ => cases hf; rfl⟩ (hval 0 23 v0 rfl rfl) h0
  obtain ⟨a0, b0, c0, rfl⟩ := len3 len0
  refine (law_calls g0 (lrel_cons (rel_ints _ .i64 [a0, b0, c0]) (lrel_nil)) ((geoMaps_law a0 b0 c0 _).mono fun _ _ hh => hh.1)).mono fun e W' ⟨he, bel⟩ => ?_
  subst he
  exact ⟨_, rfl, _, _, _, [], _, [], hW', trodAll_mk1 (shut_bool Tryd.underlying4 _), trodAll_keep laidOut bel (by kernel_rfl) hAk (fun x hx => by simpa using hW'.lt x (by simpa using hx)), rfl, bel.frame _, fun h => by cases h⟩
theorem joined : joinedFacts Tryd.pinned.checked.prog 3 Tryd.f3 Rows.geoMapsSpec Rows.geoMapsRow = true := by
  have b := begun
  simp only [Bool.and_eq_true] at b
  unfold joinedFacts
  have b1 : (Rows.geoMapsRow.lifted == Tryd.pinned.checked.prog.liftsFinal) = true := b.1.2
  have b2 : (Tryd.pinned.checked.prog.make == some Rows.geoMapsRow.make) = true := b.2
  simp only [b.1.1, b1, b2, Bool.and_true]
  simp only [Bool.and_eq_true]
  repeat' apply And.intro
  all_goals kernel_rfl
theorem over : Rows.geoMapsRow.holds Tryd.pinned (OpenSpec.ofChange Rows.geoMapsSpec) :=
  OpenClaim.holds_of_wide 3 Tryd.f3 rfl rfl rfl rfl rfl rfl rfl ⟨rfl, rfl, rfl, rfl, rfl⟩ rfl rfl rfl rfl rfl (by kernel_rfl) Tryd.func3 joined
    (of_decide_eq_true (by kernel_rfl)) (by unfold Func.isWrapper; first | (rw [if_pos (by decide +kernel)]; kernel_rfl) | (rw [if_neg (by decide +kernel)]; exact ⟨rfl, rfl⟩))
    (fun os started H enc _ => lifted os started H enc)
theorem plain (f : FuncId) (fn : Func) (hf : Tryd.pinned.checked.prog.funcNamed "triptych/triptychlaw09.GeoMaps" = some f) (hfn : Tryd.pinned.checked.prog.funcs[f]? = some fn) :
    true = Tryd.pinned.checked.prog.looks [] ∧ ∀ (j : Nat) t, fn.params[j]? = some t → Tryd.pinned.checked.prog.wantsStandIn t = false := by
  obtain rfl : f = 3 := Option.some.inj ((show Tryd.prog.funcNamed "triptych/triptychlaw09.GeoMaps" = some 3 by kernel_rfl).symm.trans hf) |>.symm
  obtain rfl : fn = Tryd.f3 := (Option.some.inj (Tryd.func3.symm.trans hfn)).symm
  refine ⟨by kernel_rfl, fun j t ht => ?_⟩
  rw [Tryd.params3] at ht
  have hm : t ∈ [23] := by simpa using Array.mem_of_getElem? ht
  have hall : ([23].all fun u => !Tryd.prog.wantsStandIn u) = true := by kernel_rfl
  exact (show Tryd.prog.wantsStandIn t = false by simpa using List.all_eq_true.1 hall t hm)
end Go.Proofs.YtpcnpnddkgdaeaaDoor.geoMaps
namespace Go.Proofs.YtpcnpnddkgdaeaaDoor
/-- The card. -/
theorem geoMaps_holds : Rows.GeoMapsCardSaid :=
  Claim7.holds_tied_plain_at .later [] _ _ _ _ geoMaps.over (fun _ h => by cases h) (by kernel_rfl) (fun _ h => by cases h) geoMaps_row_tie rfl ⟨rfl, rfl⟩ (by kernel_rfl) rfl geoMaps.plain (by kernel_rfl)
end Go.Proofs.YtpcnpnddkgdaeaaDoor
