/-
  ManifestSplits: the row of the law, with the package-level variables that it lists tied to the program: for every input the law returns true and its arguments read as before.
-/
import Derived.Test.YtpcnpnddkgdaeaaDoorManf
import Derived.Test.YtpcnpnddkgdaeaaDoorLaidM
import Derived.Test.YtpcnpnddkgdaeaaDoorBegun
import Derived.Test.YtpcnpnddkgdaeaaDoorTie
import Derived.Test.YtpcnpnddkgdaeaaDoorCards
import Derived.KernelRfl
import Derived.ProofKit
import Derived.OpenShut
import Derived.ShutString
import Derived.ChangeOld
import Derived.ChangeSame
import Derived.ChangeVars
import Derived.JoinedOf
import Derived.SizedLaws
import Derived.ChangeArms
import Derived.RowKitTokens
import Derived.LaidLaws
import Derived.Lay
import Derived.Stop.Joined
import Derived.SevenTiedAt
import Derived.MakeChecks
set_option linter.unusedSimpArgs false
set_option linter.unusedVariables false
namespace Go.Proofs.YtpcnpnddkgdaeaaDoor.manifestSplits
open Go Go.Ab Go.Proofs Go.RowKit Go.ChangeShapes Go.WideShapes Go.ChangeAt Go.Proofs.YtpcnpnddkgdaeaaDoor.str Go.Proofs.YtpcnpnddkgdaeaaDoor.vers Go.Proofs.YtpcnpnddkgdaeaaDoor.lin1 Go.Proofs.YtpcnpnddkgdaeaaDoor.sha Go.Proofs.YtpcnpnddkgdaeaaDoor.manf Go.Proofs.YtpcnpnddkgdaeaaDoor.laidm
theorem own : ownKnob Tryd.prog.godebug = none := by kernel_rfl
theorem laidOut : laidOutB Tryd.prog = true := by kernel_rfl
theorem plainLaid {W : World} : laidMetH Tryd.prog Rows.manifestSplitsRow.laid W = laidMet Tryd.prog Rows.manifestSplitsRow.laid W := by
  unfold laidMetH
  rw [show (Rows.manifestSplitsRow.laid.filter fun x => x.2.handleName?.isSome) = [] by kernel_rfl]
theorem okWide_any {P : Program} {w : World} {b b' : Nat} {t : TypeId} {v : Value} (h : Value.okWide P w .any b t v) : Value.okWide P w .any b' t v := h
set_option maxRecDepth 100000 in
theorem lifted (os : Os) (started : os.Started) (H : Type) (enc : TypeId × Value → H) :
    ReturnsInHanded {} Tryd.checked os 10 .any (fun w args => (Rows.manifestSplitsSpec.pre enc Tryd.prog Tryd.f10 Rows.manifestSplitsRow.domain false w args ∧ laidMetH Tryd.prog Rows.manifestSplitsRow.laid w) ∧ sizedMet enc Tryd.prog Tryd.f10 (OpenSpec.ofChange Rows.manifestSplitsSpec) false w args)
      (Rows.manifestSplitsSpec.post enc Tryd.prog Tryd.f10 false true false false) := by
  refine returnsInHanded_and_shaped (C := Tryd.checked) (X := fun w _ => laidMetH Tryd.prog Rows.manifestSplitsRow.laid w) (fun _ _ _ hh h => h.of_heap hh) own started (by kernel_rfl) Tryd.func10
    (ChangeSpec.witness_shaped (enc := enc) (C := Tryd.checked) (os := os) (X := fun w _ => laidMetH Tryd.prog Rows.manifestSplitsRow.laid w) false (World.laidAll Tryd.prog os Rows.manifestSplitsRow.laid) #[.string ⟨#[]⟩, .agg #[.int .i64 0, .int .i64 0, .int .i64 0, .int .i64 0, .int .u8 0, .int .u8 0, .int .u8 0, .int .u8 0, .int .u8 0, .int .u8 0, .int .u8 0, .int .u8 0, .int .u8 0, .int .u8 0, .int .u8 0, .int .u8 0, .int .u8 0, .int .u8 0, .int .u8 0, .int .u8 0, .int .u8 0, .int .u8 0, .int .u8 0, .int .u8 0, .int .u8 0, .int .u8 0, .int .u8 0, .int .u8 0, .int .u8 0, .int .u8 0, .int .u8 0, .int .u8 0, .int .u8 0, .int .u8 0, .int .u8 0, .int .u8 0]] 8 (World.laidAll_os _ _ _)
      (World.shaped_of_ZipB (by kernel_rfl) (by kernel_rfl)) (by kernel_rfl) (by kernel_rfl) (by kernel_rfl)
      (by rw [plainLaid]; exact laidMet_laidAll _ (by kernel_rfl) (by kernel_rfl))) ?_
  intro W base args ds gs before hval0 hW hcnd hsz0 hL0 hsh
  have hL : laidMet Tryd.prog Rows.manifestSplitsRow.laid W := by
    have h := hL0
    rw [plainLaid] at h
    exact h
  obtain ⟨mx, hmx⟩ := maxlen_of hsh
  letI : Inhabited TabBox := ⟨tabs mx⟩
  haveI : Nonempty GF := ⟨gf_tabs mx⟩
  haveI : Nonempty GM := ⟨@GM.mk ⟨tabs mx⟩ ⟨mx, rfl⟩⟩
  have hG : GLaid W.heap.size W := glaid_of hmx hL (by unfold Rows.manifestSplitsRow; simp) (by unfold Rows.manifestSplitsRow; simp) (by unfold Rows.manifestSplitsRow; simp)
  have hval : ∀ (j : Nat) t v, Tryd.f10.params[j]? = some t → args[j]? = some v → Value.okWide Tryd.prog W .any base t v := hval0
  have hW' := hW
  obtain ⟨p, q, hA0, hV, rfl, hfz, hnd⟩ := hW
  have hA : DataW.TrodAll enc Tryd.prog W 0 (fun _ => true) true Tryd.f10.params.toList args.toList ds p := hA0
  have hAk := hA
  rw [Tryd.params10] at hA hval hAk
  obtain ⟨v0, vs0, d0, ds0, p0, q0, hargs, rfl, rfl, h0, r00⟩ := trodAll_cons hA
  obtain ⟨v1, vs1, d1, ds1, p1, q1, rfl, rfl, rfl, h1, r10⟩ := trodAll_cons r00
  obtain ⟨rfl, rfl, rfl⟩ := trodAll_nil r10
  obtain rfl : args = #[v0, v1] := by cases args; simp_all
  obtain ⟨rfl, rfl⟩ := trodVars_none hV
  have g0 := Given.start W hG
  obtain ⟨s0, rfl⟩ := okWide_string Tryd.underlying9 (hval 0 9 v0 rfl rfl)
  obtain ⟨a0, rfl⟩ : ∃ a0, s0 = bs a0 := ⟨_, bs_of s0⟩
  obtain ⟨cs1, rfl, len1, wf1⟩ := open_flatK Tryd.underlying80 flatHead (hval 1 80 v1 rfl rfl) h1
  obtain ⟨x1_, rfl, hx1_⟩ := head_of len1 wf1
  refine (law_calls g0 (lrel_cons .string (lrel_cons (rel_flat _ (hc x1_) (hc_ints x1_)) (lrel_nil))) ((manifestSplits_law a0 x1_ hx1_ _).mono fun _ _ hh => hh.1)).mono fun e W' ⟨he, bel⟩ => ?_
  subst he
  exact ⟨_, rfl, _, _, _, [], _, [], hW', trodAll_mk1 (shut_bool Tryd.underlying4 _), trodAll_keep laidOut bel (by kernel_rfl) hAk (fun x hx => by simpa using hW'.lt x (by simpa using hx)), rfl, bel.frame _, fun h => by cases h⟩
theorem joined : joinedFacts Tryd.pinned.checked.prog 10 Tryd.f10 Rows.manifestSplitsSpec Rows.manifestSplitsRow = true := by
  have b := begun
  simp only [Bool.and_eq_true] at b
  unfold joinedFacts
  have b1 : (Rows.manifestSplitsRow.lifted == Tryd.pinned.checked.prog.liftsFinal) = true := b.1.2
  have b2 : (Tryd.pinned.checked.prog.make == some Rows.manifestSplitsRow.make) = true := b.2
  simp only [b.1.1, b1, b2, Bool.and_true]
  simp only [Bool.and_eq_true]
  repeat' apply And.intro
  all_goals kernel_rfl
theorem over : Rows.manifestSplitsRow.holds Tryd.pinned (OpenSpec.ofChange Rows.manifestSplitsSpec) :=
  OpenClaim.holds_of_wide 10 Tryd.f10 rfl rfl rfl rfl rfl rfl rfl ⟨rfl, rfl, rfl, rfl, rfl⟩ rfl rfl rfl rfl rfl (by kernel_rfl) Tryd.func10 joined
    (of_decide_eq_true (by kernel_rfl)) (by unfold Func.isWrapper; first | (rw [if_pos (by decide +kernel)]; kernel_rfl) | (rw [if_neg (by decide +kernel)]; exact ⟨rfl, rfl⟩))
    (fun os started H enc _ => lifted os started H enc)
theorem plain (f : FuncId) (fn : Func) (hf : Tryd.pinned.checked.prog.funcNamed "triptych/triptychlaw19.ManifestSplits" = some f) (hfn : Tryd.pinned.checked.prog.funcs[f]? = some fn) :
    true = Tryd.pinned.checked.prog.looks [] ∧ ∀ (j : Nat) t, fn.params[j]? = some t → Tryd.pinned.checked.prog.wantsStandIn t = false := by
  obtain rfl : f = 10 := Option.some.inj ((show Tryd.prog.funcNamed "triptych/triptychlaw19.ManifestSplits" = some 10 by kernel_rfl).symm.trans hf) |>.symm
  obtain rfl : fn = Tryd.f10 := (Option.some.inj (Tryd.func10.symm.trans hfn)).symm
  refine ⟨by kernel_rfl, fun j t ht => ?_⟩
  rw [Tryd.params10] at ht
  have hm : t ∈ [9, 80] := by simpa using Array.mem_of_getElem? ht
  have hall : ([9, 80].all fun u => !Tryd.prog.wantsStandIn u) = true := by kernel_rfl
  exact (show Tryd.prog.wantsStandIn t = false by simpa using List.all_eq_true.1 hall t hm)
end Go.Proofs.YtpcnpnddkgdaeaaDoor.manifestSplits
namespace Go.Proofs.YtpcnpnddkgdaeaaDoor
/-- The card. -/
theorem manifestSplits_holds : Rows.ManifestSplitsCardSaid :=
  Claim7.holds_tied_plain_at .later [] _ _ _ _ manifestSplits.over (fun _ h => by cases h) (by kernel_rfl) (fun _ h => by cases h) manifestSplits_row_tie rfl ⟨rfl, rfl⟩ (by kernel_rfl) rfl manifestSplits.plain (by kernel_rfl)
end Go.Proofs.YtpcnpnddkgdaeaaDoor
