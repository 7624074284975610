/-
  IntakeFeeds: the row of the law, with the package-level variables that it lists tied to the program: for every input the law returns true and its arguments read as before.
-/
import Derived.Test.YtofoihlcjmghfaaGreatDoorIntd
import Derived.Test.YtofoihlcjmghfaaGreatDoorLaidEM
import Derived.Test.YtofoihlcjmghfaaGreatDoorBegun
import Derived.Test.YtofoihlcjmghfaaGreatDoorTie
import Derived.Test.YtofoihlcjmghfaaGreatDoorCards
import Derived.KernelRfl
import Derived.ProofKit
import Derived.OpenShut
import Derived.ShutString
import Derived.ChangeOld
import Derived.ChangeSame
import Derived.ChangeVars
import Derived.JoinedOf
import Derived.SizedLaws
import Derived.ChangeArms
import Derived.RowKitTokens
import Derived.LaidLaws
import Derived.Lay
import Derived.Stop.Joined
import Derived.SevenTiedAt
import Derived.MakeChecks
set_option linter.unusedSimpArgs false
set_option linter.unusedVariables false
namespace Go.Proofs.YtofoihlcjmghfaaGreatDoor.intakeFeeds
open Go Go.Ab Go.Proofs Go.RowKit Go.ChangeShapes Go.WideShapes Go.ChangeAt Go.Proofs.YtofoihlcjmghfaaGreatDoor.str Go.Proofs.YtofoihlcjmghfaaGreatDoor.vers Go.Proofs.YtofoihlcjmghfaaGreatDoor.lin1 Go.Proofs.YtofoihlcjmghfaaGreatDoor.sha Go.Proofs.YtofoihlcjmghfaaGreatDoor.manf Go.Proofs.YtofoihlcjmghfaaGreatDoor.manr Go.Proofs.YtofoihlcjmghfaaGreatDoor.rsha Go.Proofs.YtofoihlcjmghfaaGreatDoor.verc Go.Proofs.YtofoihlcjmghfaaGreatDoor.inta Go.Proofs.YtofoihlcjmghfaaGreatDoor.intb Go.Proofs.YtofoihlcjmghfaaGreatDoor.intc Go.Proofs.YtofoihlcjmghfaaGreatDoor.intd Go.Proofs.YtofoihlcjmghfaaGreatDoor.laidem
theorem own : ownKnob Tryz.prog.godebug = none := by kernel_rfl
theorem laidOut : laidOutB Tryz.prog = true := by kernel_rfl
theorem plainLaid {W : World} : laidMetH Tryz.prog Rows.intakeFeedsRow.laid W = laidMet Tryz.prog Rows.intakeFeedsRow.laid W := by
  unfold laidMetH
  rw [show (Rows.intakeFeedsRow.laid.filter fun x => x.2.handleName?.isSome) = [] by kernel_rfl]
theorem okWide_any {P : Program} {w : World} {b b' : Nat} {t : TypeId} {v : Value} (h : Value.okWide P w .any b t v) : Value.okWide P w .any b' t v := h
set_option maxRecDepth 100000 in
theorem lifted (os : Os) (started : os.Started) (H : Type) (enc : TypeId × Value → H) :
    ReturnsInHanded {} Tryz.checked os 3 .any (fun w args => (Rows.intakeFeedsSpec.pre enc Tryz.prog Tryz.f3 Rows.intakeFeedsRow.domain false w args ∧ laidMetH Tryz.prog Rows.intakeFeedsRow.laid w) ∧ sizedMet enc Tryz.prog Tryz.f3 (OpenSpec.ofChange Rows.intakeFeedsSpec) false w args)
      (Rows.intakeFeedsSpec.post enc Tryz.prog Tryz.f3 false true false false) := by
  refine returnsInHanded_and_shaped (C := Tryz.checked) (X := fun w _ => laidMetH Tryz.prog Rows.intakeFeedsRow.laid w) (fun _ _ _ hh h => h.of_heap hh) own started (by kernel_rfl) Tryz.func3
    (ChangeSpec.witness_shaped (enc := enc) (C := Tryz.checked) (os := os) (X := fun w _ => laidMetH Tryz.prog Rows.intakeFeedsRow.laid w) false (World.laidAll Tryz.prog os Rows.intakeFeedsRow.laid) #[.int .i64 0, .agg #[.int .i64 0, .int .i64 0, .int .i64 0], .slice none 0 0] 8 (World.laidAll_os _ _ _)
      (World.shaped_of_ZipB (by kernel_rfl) (by kernel_rfl)) (by kernel_rfl) (by kernel_rfl) (by kernel_rfl)
      (by rw [plainLaid]; exact laidMet_laidAll _ (by kernel_rfl) (by kernel_rfl))) ?_
  intro W base args ds gs before hval0 hW hcnd hsz0 hL0 hsh
  have hL : laidMet Tryz.prog Rows.intakeFeedsRow.laid W := by
    have h := hL0
    rw [plainLaid] at h
    exact h
  obtain ⟨mx, hmx⟩ := maxlen_of hsh
  letI : Inhabited TabBox := ⟨tabs mx⟩
  haveI : Nonempty GF := ⟨gf_tabs mx⟩
  haveI : Nonempty GE := ⟨ge_tabs mx⟩
  haveI : Nonempty GM := ⟨@GM.mk ⟨tabs mx⟩ ⟨mx, rfl⟩⟩
  have hG : GLaid W.heap.size W := glaid_of hmx hL (by unfold Rows.intakeFeedsRow; simp) (by unfold Rows.intakeFeedsRow; simp) (by unfold Rows.intakeFeedsRow; simp)
  have hval : ∀ (j : Nat) t v, Tryz.f3.params[j]? = some t → args[j]? = some v → Value.okWide Tryz.prog W .any base t v := hval0
  have hW' := hW
  obtain ⟨p, q, hA0, hV, rfl, hfz, hnd⟩ := hW
  have hA : DataW.TrodAll enc Tryz.prog W 0 (fun _ => true) true Tryz.f3.params.toList args.toList ds p := hA0
  have hAk := hA
  rw [Tryz.params3] at hA hval hAk
  obtain ⟨v0, vs0, d0, ds0, p0, q0, hargs, rfl, rfl, h0, r00⟩ := trodAll_cons hA
  obtain ⟨v1, vs1, d1, ds1, p1, q1, rfl, rfl, rfl, h1, r10⟩ := trodAll_cons r00
  obtain ⟨v2, vs2, d2, ds2, p2, q2, rfl, rfl, rfl, h2, r20⟩ := trodAll_cons r10
  obtain ⟨rfl, rfl, rfl⟩ := trodAll_nil r20
  obtain rfl : args = #[v0, v1, v2] := by cases args; simp_all
  obtain ⟨rfl, rfl⟩ := trodVars_none hV
  have g0 := Given.start W hG
  obtain ⟨a0, rfl, rfl, rfl, w0⟩ := open_int Tryz.underlying3 (hval 0 3 v0 rfl rfl) h0
  obtain ⟨xs1, rfl, len1, wf1⟩ := open_array_ints (n := 3) Tryz.underlying23 Tryz.underlying3 (by kernel_rfl) (by kernel_rfl) (hval 1 23 v1 rfl rfl) h1
  obtain ⟨a1, b1, c1, rfl⟩ := len3 len1
  obtain ⟨μ2, hh2, va2, a2, g2x, leμ2, leh2, rel2, sl2, len20, mem2⟩ := g0.slice (ev := enS) Tryz.underlying24 (by kernel_rfl) (okWide_any (hval 2 24 v2 rfl rfl)) h2 fun n x D Pl hx => by
    obtain ⟨s, hc, _, _⟩ := DataW.trod_string Tryz.underlying9 hx
    simp only [List.cons.injEq, and_true] at hc
    obtain ⟨a, rfl⟩ : ∃ a, s = bs a := ⟨_, bs_of s⟩
    exact ⟨a, hc, fun μ => by rw [hc]; exact .string, by rw [hc]; rfl⟩
  have len2 : a2.length ≤ 9223372036854775807 := len20
  have r2 : ∀ s ∈ a2, s.length ≤ 140737488351232 := fun k hk => by
    obtain ⟨n, x, D, Pl, hx, rfl, el, sp, rfl, hm⟩ := mem2 k hk
    obtain ⟨s, hc, hD, _⟩ := DataW.trod_string Tryz.underlying9 hx
    simp only [enS, List.cons.injEq, and_true, Value.string.injEq] at hc
    obtain ⟨rfl, _⟩ := Prod.mk.inj hD
    have hw : k.length ∈ DataW.weightsAll Tryz.prog 9 el := weightsAll_mem hm (by rw [← hc]; simp [DataW.weights, bs_data])
    have := List.all_eq_true.1 hsz0 _ (DataW.weights_mem_each (j := 2) (t := 24) rfl rfl k.length (by
      show _ ∈ DataW.weights Tryz.prog 24 _
      simp only [DataW.weights, Tryz.underlying24, List.mem_cons, List.mem_append]
      exact .inr (.inl hw)))
    exact of_decide_eq_true this
  refine (law_calls g2x (lrel_cons .int (lrel_cons (rel_ints _ .i64 [a1, b1, c1]) (lrel_cons rel2 (lrel_nil)))) ((intakeFeeds_law a0 a1 b1 c1 va2 a2 _ sl2 r2 len2).mono fun _ _ hh => hh.1)).mono fun e W' ⟨he, bel⟩ => ?_
  subst he
  exact ⟨_, rfl, _, _, _, [], _, [], hW', trodAll_mk1 (shut_bool Tryz.underlying4 _), trodAll_keep laidOut bel (by kernel_rfl) hAk (fun x hx => by simpa using hW'.lt x (by simpa using hx)), rfl, bel.frame _, fun h => by cases h⟩
theorem joined : joinedFacts Tryz.pinned.checked.prog 3 Tryz.f3 Rows.intakeFeedsSpec Rows.intakeFeedsRow = true := by
  have b := begun
  simp only [Bool.and_eq_true] at b
  unfold joinedFacts
  have b1 : (Rows.intakeFeedsRow.lifted == Tryz.pinned.checked.prog.liftsFinal) = true := b.1.2
  have b2 : (Tryz.pinned.checked.prog.make == some Rows.intakeFeedsRow.make) = true := b.2
  simp only [b.1.1, b1, b2, Bool.and_true]
  simp only [Bool.and_eq_true]
  repeat' apply And.intro
  all_goals kernel_rfl
theorem over : Rows.intakeFeedsRow.holds Tryz.pinned (OpenSpec.ofChange Rows.intakeFeedsSpec) :=
  OpenClaim.holds_of_wide 3 Tryz.f3 rfl rfl rfl rfl rfl rfl rfl ⟨rfl, rfl, rfl, rfl, rfl⟩ rfl rfl rfl rfl rfl (by kernel_rfl) Tryz.func3 joined
    (of_decide_eq_true (by kernel_rfl)) (by unfold Func.isWrapper; first | (rw [if_pos (by decide +kernel)]; kernel_rfl) | (rw [if_neg (by decide +kernel)]; exact ⟨rfl, rfl⟩))
    (fun os started H enc _ => lifted os started H enc)
theorem plain (f : FuncId) (fn : Func) (hf : Tryz.pinned.checked.prog.funcNamed "triptych/triptychlaw20.IntakeFeeds" = some f) (hfn : Tryz.pinned.checked.prog.funcs[f]? = some fn) :
    true = Tryz.pinned.checked.prog.looks [] ∧ ∀ (j : Nat) t, fn.params[j]? = some t → Tryz.pinned.checked.prog.wantsStandIn t = false := by
  obtain rfl : f = 3 := Option.some.inj ((show Tryz.prog.funcNamed "triptych/triptychlaw20.IntakeFeeds" = some 3 by kernel_rfl).symm.trans hf) |>.symm
  obtain rfl : fn = Tryz.f3 := (Option.some.inj (Tryz.func3.symm.trans hfn)).symm
  refine ⟨by kernel_rfl, fun j t ht => ?_⟩
  rw [Tryz.params3] at ht
  have hm : t ∈ [3, 23, 24] := by simpa using Array.mem_of_getElem? ht
  have hall : ([3, 23, 24].all fun u => !Tryz.prog.wantsStandIn u) = true := by kernel_rfl
  exact (show Tryz.prog.wantsStandIn t = false by simpa using List.all_eq_true.1 hall t hm)
end Go.Proofs.YtofoihlcjmghfaaGreatDoor.intakeFeeds
namespace Go.Proofs.YtofoihlcjmghfaaGreatDoor
/-- The card. -/
theorem intakeFeeds_holds : Rows.IntakeFeedsCardSaid :=
  Claim7.holds_tied_plain_at .later [] _ _ _ _ intakeFeeds.over (fun _ h => by cases h) (by kernel_rfl) (fun _ h => by cases h) intakeFeeds_row_tie rfl ⟨rfl, rfl⟩ (by kernel_rfl) rfl intakeFeeds.plain (by kernel_rfl)
end Go.Proofs.YtofoihlcjmghfaaGreatDoor
