/-
  AreaErrors: the row of the law, with the package-level variables that it lists tied to the program: for every input the law returns true and its arguments read as before.
-/
import Derived.Test.YtikpgnkegnedoaaGreatArbh
import Derived.Test.YtikpgnkegnedoaaGreatBegun
import Derived.KernelRfl
import Derived.ProofKit
import Derived.OpenShut
import Derived.ShutString
import Derived.ChangeOld
import Derived.ChangeSame
import Derived.ChangeVars
import Derived.JoinedOf
import Derived.SizedLaws
import Derived.ChangeArms
import Derived.RowKitTokens
import Derived.LaidLaws
import Derived.Lay
import Derived.Stop.Joined
import Derived.SevenTiedAt
import Derived.MakeChecks
set_option linter.unusedSimpArgs false
set_option linter.unusedVariables false
namespace Go.Proofs.YtikpgnkegnedoaaGreat.areaErrors
open Go Go.Ab Go.Proofs Go.RowKit Go.ChangeShapes Go.WideShapes Go.ChangeAt Go.Proofs.YtikpgnkegnedoaaGreat.str Go.Proofs.YtikpgnkegnedoaaGreat.vers Go.Proofs.YtikpgnkegnedoaaGreat.lin1 Go.Proofs.YtikpgnkegnedoaaGreat.sha Go.Proofs.YtikpgnkegnedoaaGreat.arba Go.Proofs.YtikpgnkegnedoaaGreat.arbb Go.Proofs.YtikpgnkegnedoaaGreat.arbc Go.Proofs.YtikpgnkegnedoaaGreat.arbd Go.Proofs.YtikpgnkegnedoaaGreat.arbe Go.Proofs.YtikpgnkegnedoaaGreat.arbf Go.Proofs.YtikpgnkegnedoaaGreat.arbg Go.Proofs.YtikpgnkegnedoaaGreat.arbh
theorem own : ownKnob Tryz.prog.godebug = none := by kernel_rfl
theorem laidOut : laidOutB Tryz.prog = true := by kernel_rfl
theorem okWide_any {P : Program} {w : World} {b b' : Nat} {t : TypeId} {v : Value} (h : Value.okWide P w .any b t v) : Value.okWide P w .any b' t v := h
theorem trod_array_ints [Inhabited TabBox] {H : Type} {enc : TypeId × Value → H} {P : Program} {W : World} {t te : TypeId} {k : IntKind} {n : Nat} (ht : P.underlying t = some (.array n te)) (hti : P.underlying te = some (.int k)) (hn : P.cellsOf t = n) (hc1 : P.cellsOf te = 1)
    {b : Nat} {sp : Nat → Bool} {hh : Bool} {fuel : Nat} {cs : List Value} {x : DataW H × List MemPlace} (h : DataW.trod enc P W b sp hh fuel t cs = some x) :
    ∃ is : List Int, cs = is.map (Value.int k) ∧ is.length = n ∧ ∀ y ∈ is, (Lit.int k y).wf = true := by
  obtain ⟨xs, m, _, _, hl0, hl, hx⟩ := DataW.trod_array ht h
  obtain ⟨is, h1, h2⟩ := ints_of (enc := enc) (W := W) (sp := sp) (hd := hh) (b := b) hti (cs := cs) fun c hc => by
    obtain ⟨i, hi, rfl⟩ := List.mem_iff_getElem.1 hc
    have hin : i < n := by omega
    have := hx i hin
    rw [hc1, Nat.mul_one, List.getElem?_eq_getElem (by omega)] at this
    refine ⟨m, xs[i]'(by omega), ?_⟩
    rw [show [cs[i]] = List.take 1 (List.drop i cs) by rw [List.drop_eq_getElem_cons hi]; rfl]
    exact this
  refine ⟨is, h1, ?_, h2⟩
  have := congrArg List.length h1
  simp at this
  omega
set_option maxRecDepth 100000 in
theorem lifted (os : Os) (started : os.Started) (H : Type) (enc : TypeId × Value → H) :
    ReturnsInHanded {} Tryz.checked os 5 .any (Rows.areaErrorsSpec.pre6 enc Tryz.prog Tryz.f5 Rows.areaErrorsRow.domain false) (Rows.areaErrorsSpec.post enc Tryz.prog Tryz.f5 false true false false) := by
  refine returnsInHanded_of_change_sized (C := Tryz.checked) own started (by kernel_rfl) Tryz.func5
    (ChangeSpec.witness6 (enc := enc) (C := Tryz.checked) false ⟨#[], #[.agg #[.int .i64 0, .int .i64 0, .int .i64 0], .agg #[.int .i64 0, .int .i64 0, .int .i64 0], .slice none 0 0], []⟩ 8 (by kernel_rfl) (by kernel_rfl) (by kernel_rfl) (by kernel_rfl)) ?_
  intro W base args ds gs before hval0 hW hcnd hsz0 _
  letI : Inhabited TabBox := ⟨⟨fun _ => none⟩⟩
  haveI : Nonempty GF := ⟨⟨⟩⟩
  haveI : Nonempty GE := ⟨⟨⟩⟩
  have hG : GLaid W.heap.size W := fun g c e => by cases e
  have hval : ∀ (j : Nat) t v, Tryz.f5.params[j]? = some t → args[j]? = some v → Value.okWide Tryz.prog W .any base t v := hval0
  have hW' := hW
  obtain ⟨p, q, hA0, hV, rfl, hfz, hnd⟩ := hW
  have hA : DataW.TrodAll enc Tryz.prog W 0 (fun _ => true) true Tryz.f5.params.toList args.toList ds p := hA0
  have hAk := hA
  rw [Tryz.params5] at hA hval hAk
  obtain ⟨v0, vs0, d0, ds0, p0, q0, hargs, rfl, rfl, h0, r00⟩ := trodAll_cons hA
  obtain ⟨v1, vs1, d1, ds1, p1, q1, rfl, rfl, rfl, h1, r10⟩ := trodAll_cons r00
  obtain ⟨v2, vs2, d2, ds2, p2, q2, rfl, rfl, rfl, h2, r20⟩ := trodAll_cons r10
  obtain ⟨rfl, rfl, rfl⟩ := trodAll_nil r20
  obtain rfl : args = #[v0, v1, v2] := by cases args; simp_all
  obtain ⟨rfl, rfl⟩ := trodVars_none hV
  have g0 := Given.start W hG
  obtain ⟨xs0, rfl, len0, wf0⟩ := open_struct_ints (n := 3) Tryz.underlying23 (by kernel_rfl) (fun i hi => by
      match i, hi with
      | 0, _ => exact ⟨_, rfl, rfl, by kernel_rfl, Tryz.underlying3⟩
      | 1, _ => exact ⟨_, rfl, rfl, by kernel_rfl, Tryz.underlying3⟩
      | 2, _ => exact ⟨_, rfl, rfl, by kernel_rfl, Tryz.underlying3⟩) ⟨3, Tryz.underlying3, fun i hi f hf => by
      match i, hi with
      | 0, _ => cases hf; rfl
      | 1, _ => cases hf; rfl
      | 2, _ => cases hf; rfl⟩ (hval 0 23 v0 rfl rfl) h0
  obtain ⟨a0, b0, c0, rfl⟩ := len3 len0
  obtain ⟨xs1, rfl, len1, wf1⟩ := open_array_ints (n := 3) Tryz.underlying24 Tryz.underlying3 (by kernel_rfl) (by kernel_rfl) (hval 1 24 v1 rfl rfl) h1
  obtain ⟨a1, b1, c1, rfl⟩ := len3 len1
  obtain ⟨μ2, hh2, va2, L2, g2x, leμ2, leh2, rel2, sl2, mx2, mem2⟩ := g0.structs (k := .u8) (n := 60) Tryz.underlying31 (by kernel_rfl) (by omega) (okWide_any (hval 2 31 v2 rfl rfl)) h2 fun n x cs hx => trod_array_ints (n := 60) Tryz.underlying40 Tryz.underlying5 (by kernel_rfl) (by kernel_rfl) hx
  obtain ⟨l2, sr2, ll2⟩ := bls_of sl2 mem2
  have len2 : l2.length ≤ 9223372036854775807 := by rw [ll2]; exact mx2
  refine (law_calls g2x (lrel_cons (rel_ints _ .i64 [a0, b0, c0]) (lrel_cons (rel_ints _ .i64 [a1, b1, c1]) (lrel_cons rel2 (lrel_nil)))) ((areaErrors_law a0 b0 c0 a1 b1 c1 l2 va2 _ sr2).mono fun _ _ hh => hh.1)).mono fun e W' ⟨he, bel⟩ => ?_
  subst he
  exact ⟨_, rfl, _, _, _, [], _, [], hW', trodAll_mk1 (shut_bool Tryz.underlying4 _), trodAll_keep laidOut bel (by kernel_rfl) hAk (fun x hx => by simpa using hW'.lt x (by simpa using hx)), rfl, bel.frame _, fun h => by cases h⟩
theorem joined : joinedFacts Tryz.pinned.checked.prog 5 Tryz.f5 Rows.areaErrorsSpec Rows.areaErrorsRow = true := by
  have b := begun
  simp only [Bool.and_eq_true] at b
  unfold joinedFacts
  have b1 : (Rows.areaErrorsRow.lifted == Tryz.pinned.checked.prog.liftsFinal) = true := b.1.2
  have b2 : (Tryz.pinned.checked.prog.make == some Rows.areaErrorsRow.make) = true := b.2
  simp only [b.1.1, b1, b2, Bool.and_true]
  simp only [Bool.and_eq_true]
  repeat' apply And.intro
  all_goals kernel_rfl
theorem over : Rows.areaErrorsRow.holds Tryz.pinned (OpenSpec.ofChange Rows.areaErrorsSpec) :=
  OpenClaim.holds_of_wide 5 Tryz.f5 rfl rfl rfl rfl rfl rfl rfl ⟨rfl, rfl, rfl, rfl, rfl⟩ rfl rfl rfl rfl rfl (by kernel_rfl) Tryz.func5 joined
    (of_decide_eq_true (by kernel_rfl)) (by unfold Func.isWrapper; first | (rw [if_pos (by decide +kernel)]; kernel_rfl) | (rw [if_neg (by decide +kernel)]; exact ⟨rfl, rfl⟩))
    (fun os started H enc _ => lifted os started H enc)
end Go.Proofs.YtikpgnkegnedoaaGreat.areaErrors
namespace Go.Proofs.YtikpgnkegnedoaaGreat
/-- The row. -/
theorem areaErrors_holds : Rows.AreaErrorsSaid := areaErrors.over
end Go.Proofs.YtikpgnkegnedoaaGreat
