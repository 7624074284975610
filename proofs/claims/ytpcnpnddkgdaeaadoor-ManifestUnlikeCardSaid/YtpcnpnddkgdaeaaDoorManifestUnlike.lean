/-
  ManifestUnlike: the row of the law, with the package-level variables that it lists tied to the program: for every input the law returns true and its arguments read as before.
-/
import Derived.Test.YtpcnpnddkgdaeaaDoorManf
import Derived.Test.YtpcnpnddkgdaeaaDoorLaidM
import Derived.Test.YtpcnpnddkgdaeaaDoorBegun
import Derived.Test.YtpcnpnddkgdaeaaDoorTie
import Derived.Test.YtpcnpnddkgdaeaaDoorCards
import Derived.KernelRfl
import Derived.ProofKit
import Derived.OpenShut
import Derived.ShutString
import Derived.ChangeOld
import Derived.ChangeSame
import Derived.ChangeVars
import Derived.JoinedOf
import Derived.SizedLaws
import Derived.ChangeArms
import Derived.RowKitTokens
import Derived.LaidLaws
import Derived.Lay
import Derived.Stop.Joined
import Derived.SevenTiedAt
import Derived.MakeChecks
set_option linter.unusedSimpArgs false
set_option linter.unusedVariables false
namespace Go.Proofs.YtpcnpnddkgdaeaaDoor.manifestUnlike
open Go Go.Ab Go.Proofs Go.RowKit Go.ChangeShapes Go.WideShapes Go.ChangeAt Go.Proofs.YtpcnpnddkgdaeaaDoor.str Go.Proofs.YtpcnpnddkgdaeaaDoor.vers Go.Proofs.YtpcnpnddkgdaeaaDoor.lin1 Go.Proofs.YtpcnpnddkgdaeaaDoor.sha Go.Proofs.YtpcnpnddkgdaeaaDoor.manf Go.Proofs.YtpcnpnddkgdaeaaDoor.laidm
theorem own : ownKnob Tryd.prog.godebug = none := by kernel_rfl
theorem laidOut : laidOutB Tryd.prog = true := by kernel_rfl
theorem plainLaid {W : World} : laidMetH Tryd.prog Rows.manifestUnlikeRow.laid W = laidMet Tryd.prog Rows.manifestUnlikeRow.laid W := by
  unfold laidMetH
  rw [show (Rows.manifestUnlikeRow.laid.filter fun x => x.2.handleName?.isSome) = [] by kernel_rfl]
theorem okWide_any {P : Program} {w : World} {b b' : Nat} {t : TypeId} {v : Value} (h : Value.okWide P w .any b t v) : Value.okWide P w .any b' t v := h
set_option maxRecDepth 100000 in
theorem lifted (os : Os) (started : os.Started) (H : Type) (enc : TypeId × Value → H) :
    ReturnsInHanded {} Tryd.checked os 11 .any (fun w args => (Rows.manifestUnlikeSpec.pre enc Tryd.prog Tryd.f11 Rows.manifestUnlikeRow.domain false w args ∧ laidMetH Tryd.prog Rows.manifestUnlikeRow.laid w) ∧ sizedMet enc Tryd.prog Tryd.f11 (OpenSpec.ofChange Rows.manifestUnlikeSpec) false w args)
      (Rows.manifestUnlikeSpec.post enc Tryd.prog Tryd.f11 false true false false) := by
  refine returnsInHanded_and_shaped (C := Tryd.checked) (X := fun w _ => laidMetH Tryd.prog Rows.manifestUnlikeRow.laid w) (fun _ _ _ hh h => h.of_heap hh) own started (by kernel_rfl) Tryd.func11
    (ChangeSpec.witness_shaped (enc := enc) (C := Tryd.checked) (os := os) (X := fun w _ => laidMetH Tryd.prog Rows.manifestUnlikeRow.laid w) false (World.laidAll Tryd.prog os Rows.manifestUnlikeRow.laid) #[.agg #[.int .i64 0, .int .i64 0, .int .i64 0, .int .i64 0, .int .u8 0, .int .u8 0, .int .u8 0, .int .u8 0, .int .u8 0, .int .u8 0, .int .u8 0, .int .u8 0, .int .u8 0, .int .u8 0, .int .u8 0, .int .u8 0, .int .u8 0, .int .u8 0, .int .u8 0, .int .u8 0, .int .u8 0, .int .u8 0, .int .u8 0, .int .u8 0, .int .u8 0, .int .u8 0, .int .u8 0, .int .u8 0, .int .u8 0, .int .u8 0, .int .u8 0, .int .u8 0, .int .u8 0, .int .u8 0, .int .u8 0, .int .u8 0], .agg #[.int .i64 0, .int .i64 0, .int .i64 0, .int .i64 0, .int .u8 0, .int .u8 0, .int .u8 0, .int .u8 0, .int .u8 0, .int .u8 0, .int .u8 0, .int .u8 0, .int .u8 0, .int .u8 0, .int .u8 0, .int .u8 0, .int .u8 0, .int .u8 0, .int .u8 0, .int .u8 0, .int .u8 0, .int .u8 0, .int .u8 0, .int .u8 0, .int .u8 0, .int .u8 0, .int .u8 0, .int .u8 0, .int .u8 0, .int .u8 0, .int .u8 0, .int .u8 0, .int .u8 0, .int .u8 0, .int .u8 0, .int .u8 0]] 8 (World.laidAll_os _ _ _)
      (World.shaped_of_ZipB (by kernel_rfl) (by kernel_rfl)) (by kernel_rfl) (by kernel_rfl) (by kernel_rfl)
      (by rw [plainLaid]; exact laidMet_laidAll _ (by kernel_rfl) (by kernel_rfl))) ?_
  intro W base args ds gs before hval0 hW hcnd hsz0 hL0 hsh
  have hL : laidMet Tryd.prog Rows.manifestUnlikeRow.laid W := by
    have h := hL0
    rw [plainLaid] at h
    exact h
  obtain ⟨mx, hmx⟩ := maxlen_of hsh
  letI : Inhabited TabBox := ⟨tabs mx⟩
  haveI : Nonempty GF := ⟨gf_tabs mx⟩
  haveI : Nonempty GM := ⟨@GM.mk ⟨tabs mx⟩ ⟨mx, rfl⟩⟩
  have hG : GLaid W.heap.size W := glaid_of hmx hL (by unfold Rows.manifestUnlikeRow; simp) (by unfold Rows.manifestUnlikeRow; simp) (by unfold Rows.manifestUnlikeRow; simp)
  have hval : ∀ (j : Nat) t v, Tryd.f11.params[j]? = some t → args[j]? = some v → Value.okWide Tryd.prog W .any base t v := hval0
  have hW' := hW
  obtain ⟨p, q, hA0, hV, rfl, hfz, hnd⟩ := hW
  have hA : DataW.TrodAll enc Tryd.prog W 0 (fun _ => true) true Tryd.f11.params.toList args.toList ds p := hA0
  have hAk := hA
  rw [Tryd.params11] at hA hval hAk
  obtain ⟨v0, vs0, d0, ds0, p0, q0, hargs, rfl, rfl, h0, r00⟩ := trodAll_cons hA
  obtain ⟨v1, vs1, d1, ds1, p1, q1, rfl, rfl, rfl, h1, r10⟩ := trodAll_cons r00
  obtain ⟨rfl, rfl, rfl⟩ := trodAll_nil r10
  obtain rfl : args = #[v0, v1] := by cases args; simp_all
  obtain ⟨rfl, rfl⟩ := trodVars_none hV
  have g0 := Given.start W hG
  obtain ⟨cs0, rfl, len0, wf0⟩ := open_flatK Tryd.underlying80 flatHead (hval 0 80 v0 rfl rfl) h0
  obtain ⟨x0_, rfl, hx0_⟩ := head_of len0 wf0
  obtain ⟨cs1, rfl, len1, wf1⟩ := open_flatK Tryd.underlying80 flatHead (hval 1 80 v1 rfl rfl) h1
  obtain ⟨x1_, rfl, hx1_⟩ := head_of len1 wf1
  refine (law_calls g0 (lrel_cons (rel_flat _ (hc x0_) (hc_ints x0_)) (lrel_cons (rel_flat _ (hc x1_) (hc_ints x1_)) (lrel_nil))) ((manifestUnlike_law x0_ x1_ hx0_ hx1_ _).mono fun _ _ hh => hh.1)).mono fun e W' ⟨he, bel⟩ => ?_
  subst he
  exact ⟨_, rfl, _, _, _, [], _, [], hW', trodAll_mk1 (shut_bool Tryd.underlying4 _), trodAll_keep laidOut bel (by kernel_rfl) hAk (fun x hx => by simpa using hW'.lt x (by simpa using hx)), rfl, bel.frame _, fun h => by cases h⟩
theorem joined : joinedFacts Tryd.pinned.checked.prog 11 Tryd.f11 Rows.manifestUnlikeSpec Rows.manifestUnlikeRow = true := by
  have b := begun
  simp only [Bool.and_eq_true] at b
  unfold joinedFacts
  have b1 : (Rows.manifestUnlikeRow.lifted == Tryd.pinned.checked.prog.liftsFinal) = true := b.1.2
  have b2 : (Tryd.pinned.checked.prog.make == some Rows.manifestUnlikeRow.make) = true := b.2
  simp only [b.1.1, b1, b2, Bool.and_true]
  simp only [Bool.and_eq_true]
  repeat' apply And.intro
  all_goals kernel_rfl
theorem over : Rows.manifestUnlikeRow.holds Tryd.pinned (OpenSpec.ofChange Rows.manifestUnlikeSpec) :=
  OpenClaim.holds_of_wide 11 Tryd.f11 rfl rfl rfl rfl rfl rfl rfl ⟨rfl, rfl, rfl, rfl, rfl⟩ rfl rfl rfl rfl rfl (by kernel_rfl) Tryd.func11 joined
    (of_decide_eq_true (by kernel_rfl)) (by unfold Func.isWrapper; first | (rw [if_pos (by decide +kernel)]; kernel_rfl) | (rw [if_neg (by decide +kernel)]; exact ⟨rfl, rfl⟩))
    (fun os started H enc _ => lifted os started H enc)
theorem plain (f : FuncId) (fn : Func) (hf : Tryd.pinned.checked.prog.funcNamed "triptych/triptychlaw19.ManifestUnlike" = some f) (hfn : Tryd.pinned.checked.prog.funcs[f]? = some fn) :
    true = Tryd.pinned.checked.prog.looks [] ∧ ∀ (j : Nat) t, fn.params[j]? = some t → Tryd.pinned.checked.prog.wantsStandIn t = false := by
  obtain rfl : f = 11 := Option.some.inj ((show Tryd.prog.funcNamed "triptych/triptychlaw19.ManifestUnlike" = some 11 by kernel_rfl).symm.trans hf) |>.symm
  obtain rfl : fn = Tryd.f11 := (Option.some.inj (Tryd.func11.symm.trans hfn)).symm
  refine ⟨by kernel_rfl, fun j t ht => ?_⟩
  rw [Tryd.params11] at ht
  have hm : t ∈ [80, 80] := by simpa using Array.mem_of_getElem? ht
  have hall : ([80, 80].all fun u => !Tryd.prog.wantsStandIn u) = true := by kernel_rfl
  exact (show Tryd.prog.wantsStandIn t = false by simpa using List.all_eq_true.1 hall t hm)
end Go.Proofs.YtpcnpnddkgdaeaaDoor.manifestUnlike
namespace Go.Proofs.YtpcnpnddkgdaeaaDoor
/-- The card. -/
theorem manifestUnlike_holds : Rows.ManifestUnlikeCardSaid :=
  Claim7.holds_tied_plain_at .later [] _ _ _ _ manifestUnlike.over (fun _ h => by cases h) (by kernel_rfl) (fun _ h => by cases h) manifestUnlike_row_tie rfl ⟨rfl, rfl⟩ (by kernel_rfl) rfl manifestUnlike.plain (by kernel_rfl)
end Go.Proofs.YtpcnpnddkgdaeaaDoor
