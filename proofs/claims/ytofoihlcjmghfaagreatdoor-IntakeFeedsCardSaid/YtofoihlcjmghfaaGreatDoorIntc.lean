/-
  Contracts.
-/
import Derived.Test.YtofoihlcjmghfaaGreatDoorIntb
import Derived.Test.YtofoihlcjmghfaaGreatDoorInta
import Derived.Test.YtofoihlcjmghfaaGreatDoorVerc
import Derived.Test.YtofoihlcjmghfaaGreatDoorManf
import Derived.Test.YtofoihlcjmghfaaGreatDoorSha
import Derived.Test.YtofoihlcjmghfaaGreatDoorLin1
import Derived.Test.YtofoihlcjmghfaaGreatDoorVers
import Derived.Test.YtofoihlcjmghfaaGreatDoorStr
import Derived.Test.YtofoihlcjmghfaaGreatDoorAbEnter
import Derived.Test.YtofoihlcjmghfaaGreatDoorAbStep
import Derived.Test.YtofoihlcjmghfaaGreatDoorProg
import Derived.IntWalk
import Derived.KernelRfl
set_option linter.unusedSimpArgs false
set_option linter.unusedVariables false
set_option linter.unusedSectionVars false
namespace Go.Proofs.YtofoihlcjmghfaaGreatDoor.intc
open Go Go.Ab Go.Proofs Go.RowKit Go.Proofs.YtofoihlcjmghfaaGreatDoor.str Go.Proofs.YtofoihlcjmghfaaGreatDoor.vers Go.Proofs.YtofoihlcjmghfaaGreatDoor.lin1 Go.Proofs.YtofoihlcjmghfaaGreatDoor.sha Go.Proofs.YtofoihlcjmghfaaGreatDoor.manf Go.Proofs.YtofoihlcjmghfaaGreatDoor.verc Go.Proofs.YtofoihlcjmghfaaGreatDoor.inta Go.Proofs.YtofoihlcjmghfaaGreatDoor.intb
variable [Inhabited TabBox]
variable [Nonempty GF]
variable [Nonempty GE]
set_option maxRecDepth 100000
attribute [local simp] s_ops s_seq s_cond s_cond_t s_cond_f s_block s_exit s_ret s_skip s_then_n s_then_n' s_then_e s_then_e' s_then_r s_then_r' s_block_n s_block_r s_block_e s_post_r s_post_n s_res0 s_res1 s_res2 s_res3 s_res4 s_nil s_cons s_guard s_guard_tt s_guard_ff s_guard_tf s_guard_ft s_guard_u s_call s_kL s_put s_put0 s_set s_tmp s_const s_func s_glob s_init s_mkF s_mkF0 s_mv s_bin s_pick s_op aop oK_some oK_none bK_some bK_none b_add b_sub b_mul b_quo b_rem b_and b_or b_xor b_andNot b_shl b_shr b_eql b_neq b_lss b_leq b_gtr b_geq b_sadd b_seql b_sneq b_slss b_sleq b_sgtr b_sgeq s_draw s_drawT s_tK s_tT s_tF s_tB s_tR s_stage s_stage0 s_kW s_kR s_rc0 s_rc s_rcg rK_some rK_none rG_b rG_u s_callv s_callv_f s_nextM s_postR_r s_postR_n s_resA0 s_resAt s_resAc s_resC s_tup0 s_tup1 s_tup2 s_tup3
variable [Nonempty GM]
theorem take_facts (x : It) (T p : List UInt8) : (takeFI x T p).1.1.text = x.text ∧ (takeFI x T p).1.1.hd = x.hd ∧ ((takeFI x T p).2.2 ≠ 0 → (takeFI x T p).1.1.e = (takeFI x T p).2.2 ∧ (takeFI x T p).1.2 = T) ∧ (takeFI x T p).1.2.length ≤ T.length + p.length := by
  unfold takeFI
  split
  · exact ⟨rfl, rfl, fun _ => ⟨rfl, rfl⟩, by simp [spoilF]⟩
  · exact ⟨rfl, rfl, fun k => absurd rfl k, by simp⟩
theorem feed_facts (x : It) (T p : List UInt8) : ((feedF x T p).2.2 ≠ 0 → (feedF x T p).1.1.e = (feedF x T p).2.2 ∧ (feedF x T p).1.2 = T) ∧ (feedF x T p).1.1.text.length ≤ x.text.length + p.length ∧
    ((0 ≤ x.hd.n ∧ x.hd.n ≤ 16777215) → 0 ≤ (feedF x T p).1.1.hd.n ∧ (feedF x T p).1.1.hd.n ≤ 16777215) ∧ (feedF x T p).1.2.length ≤ T.length + x.text.length + p.length := by
  have happ := congrArg List.length (splF_app (x.text ++ p))
  rw [List.length_append, List.length_append] at happ
  by_cases h1 : x.e ≠ 0
  · have : feedF x T p = ((x, T), ([], x.e)) := if_pos h1
    rw [this]
    exact ⟨fun _ => ⟨rfl, rfl⟩, by simp, fun k => k, by simp; omega⟩
  cases hbg : x.bg with
  | true =>
    have : feedF x T p = takeFI x T p := by unfold feedF; rw [if_neg h1, if_pos hbg]
    rw [this]
    obtain ⟨a1, a2, a3, a4⟩ := take_facts x T p
    refine ⟨a3, by rw [a1]; omega, fun k => by rw [a2]; exact k, by omega⟩
  | false =>
    have hF0 : feedF x T p = (if (splF (x.text ++ p)).2.2 = false then (if 160 < (splF (x.text ++ p)).1.length then spoilF { x with text := (splF (x.text ++ p)).1 } T 12 else (({ x with text := (splF (x.text ++ p)).1 }, T), ([], 0)))
      else if (beginF { x with text := (splF (x.text ++ p)).1 } (splF (x.text ++ p)).1).2 ≠ 0 then spoilF (beginF { x with text := (splF (x.text ++ p)).1 } (splF (x.text ++ p)).1).1 T (beginF { x with text := (splF (x.text ++ p)).1 } (splF (x.text ++ p)).1).2
      else takeFI (beginF { x with text := (splF (x.text ++ p)).1 } (splF (x.text ++ p)).1).1 T (splF (x.text ++ p)).2.1) := by
      unfold feedF; rw [if_neg h1, if_neg (by simp [hbg])]
    rw [hF0]
    generalize splF (x.text ++ p) = w at *
    obtain ⟨t, r, en⟩ := w
    dsimp only at happ ⊢
    clear hF0
    by_cases h2 : en = false
    · rw [if_pos h2]
      by_cases h3 : 160 < t.length
      · rw [if_pos h3]
        exact ⟨fun _ => ⟨rfl, rfl⟩, by simp [spoilF]; omega, fun k => k, by simp [spoilF]; omega⟩
      · rw [if_neg h3]
        exact ⟨fun k => absurd rfl k, by simp; omega, fun k => k, by simp; omega⟩
    · rw [if_neg h2]
      by_cases h3 : (beginF { x with text := t } t).2 ≠ 0
      · rw [if_pos h3]
        have hb := begin_err h3
        refine ⟨fun _ => ⟨rfl, rfl⟩, ?_, ?_, ?_⟩
        · show (beginF { x with text := t } t).1.text.length ≤ _
          rw [hb]; simp; omega
        · intro k
          show 0 ≤ (beginF { x with text := t } t).1.hd.n ∧ _
          rw [hb]; exact k
        · show T.length ≤ _
          omega
      · rw [if_neg h3]
        have h3' : (beginF { x with text := t } t).2 = 0 := Classical.not_not.1 h3
        obtain ⟨e1, e2, _, _⟩ := begin_ok h3'
        have hn := (parF_ok e2).1.2
        obtain ⟨a1, a2, a3, a4⟩ := take_facts (beginF { x with text := t } t).1 T r
        refine ⟨a3, ?_, ?_, by omega⟩
        · rw [a1, e1]; simp; omega
        · intro _; rw [a2, e1]; exact hn
structure Run (room fa fb fc : Int) (S : List UInt8) (X : It) (T acc : List UInt8) (err : Int) : Prop where
  err_eq : err = (allF room fa fb fc S).2.2
  ok : err = 0 → (X, T) = (allF room fa fb fc S).1 ∧ acc = (allF room fa fb fc S).2.1
  bad : err ≠ 0 → X.e = err
  hd : X.hd = (allF room fa fb fc S).1.1.hd
  bg : X.bg = (allF room fa fb fc S).1.1.bg
  hn : 0 ≤ X.hd.n ∧ X.hd.n ≤ 16777215
  tl : T.length ≤ S.length
  xl : X.text.length ≤ S.length
theorem all_nil (room fa fb fc : Int) : allF room fa fb fc [] = ((it0 room fa fb fc, []), ([], 0)) := by
  have hs : splF ([] : List UInt8) = ([], [], false) := by
    have := splF_V []
    rcases this with ⟨i, h1, _⟩ | ⟨_, h3⟩
    · exact absurd (getI h1.1) (by simp)
    · simp only [sv, Value.tuple.injEq, Array.mk.injEq, List.cons.injEq, Value.string.injEq, Value.bool.injEq, and_true, bs_inj] at h3
      exact Prod.ext h3.1 (Prod.ext h3.2.1 h3.2.2)
  unfold allF feedF
  rw [if_neg (by simp [it0]), if_neg (by simp [it0])]
  simp only [it0, List.nil_append, hs]
  rw [if_pos trivial, if_neg (by simp)]
theorem run_zero (room fa fb fc : Int) : Run room fa fb fc [] (it0 room fa fb fc) [] [] 0 := by
  have h := all_nil room fa fb fc
  exact ⟨by rw [h], fun _ => by rw [h]; exact ⟨rfl, rfl⟩, fun k => absurd rfl k, by rw [h], by rw [h], by simp [it0, zH], by simp, by simp [it0]⟩
theorem run_next {room fa fb fc : Int} {S : List UInt8} {X : It} {T acc : List UInt8} {err : Int} (r : Run room fa fb fc S X T acc err) (p : List UInt8) :
    Run room fa fb fc (S ++ p) (feedF X T p).1.1 (feedF X T p).1.2 (acc ++ (feedF X T p).2.1) (if err = 0 then (feedF X T p).2.2 else err) ∧ (err ≠ 0 → (feedF X T p).2 = ([], err)) := by
  obtain ⟨f1, f2, f3, f4⟩ := feed_facts X T p
  have hSp : (S ++ p).length = S.length + p.length := List.length_append
  by_cases he : err = 0
  · obtain ⟨o1, o2⟩ := r.ok he
    have hA : (allF room fa fb fc S).2.2 = 0 := by rw [← r.err_eq, he]
    obtain ⟨g1, g2, g3, g4⟩ := feed_next room fa fb fc S p hA
    rw [← o1, ← o2] at g4
    rw [← o1] at g1 g2 g3
    dsimp only at g1 g2 g3 g4
    have tb := feed_facts (it0 room fa fb fc) [] (S ++ p)
    rw [if_pos he]
    refine ⟨⟨g1, fun k => ?_, fun k => (f1 k).1, g2, g3, f3 r.hn, ?_, by have := r.xl; omega⟩, fun k => absurd he k⟩
    · rw [g1] at k
      exact ⟨(g4 k).1, (g4 k).2⟩
    · by_cases k : (feedF X T p).2.2 = 0
      · rw [g1] at k
        rw [(g4 k).1]
        have := tb.2.2.2
        simpa [it0, allF] using this
      · rw [(f1 k).2]
        have := r.tl
        omega
  · have hx := r.bad he
    have hF : feedF X T p = ((X, T), ([], X.e)) := if_pos (by rw [hx]; exact he)
    have hA : (allF room fa fb fc S).2.2 ≠ 0 := by rw [← r.err_eq]; exact he
    obtain ⟨g1, g2, g3⟩ := feed_err room fa fb fc S p hA
    rw [if_neg he, hF]
    exact ⟨⟨by rw [g1]; exact r.err_eq, fun k => absurd k he, fun _ => hx, by rw [g2]; exact r.hd, by rw [g3]; exact r.bg, r.hn, by show T.length ≤ _; have := r.tl; omega, by show X.text.length ≤ _; have := r.xl; omega⟩, fun _ => by rw [hx]⟩
variable [Nonempty GM]
theorem feed_out (x : It) (T p : List UInt8) : (feedF x T p).2.1.length ≤ x.text.length + p.length := by
  have happ := congrArg List.length (splF_app (x.text ++ p))
  rw [List.length_append, List.length_append] at happ
  have tk : ∀ (x : It) (T p : List UInt8), (takeFI x T p).2.1.length ≤ p.length := fun x T p => by
    unfold takeFI
    split
    · simp [spoilF]
    · exact Nat.le_refl _
  unfold feedF
  split
  · simp
  · split
    · have := tk x T p; omega
    · split
      · split
        · simp [spoilF]
        · simp
      · split
        · simp [spoilF]
        · have := tk (beginF { x with text := (splF (x.text ++ p)).1 } (splF (x.text ++ p)).1).1 T (splF (x.text ++ p)).2.1
          omega
theorem feed1_ok {y b : Nat} {nm : Option Nat} {x : It} {T : List UInt8} (p : List UInt8) (H : Heap) (hc : H.Closed) (q : InK y b nm x T H) (hn : 0 ≤ x.hd.n ∧ x.hd.n ≤ 16777215) (hT0 : T.length ≤ 1000000) (htx : x.text.length ≤ 500000) (hpl : p.length ≤ 100000) :
    ACalls Tryz.prog 10 [.pointer (some ⟨y, 0, none⟩), .slice (some ⟨H.n, 0, none⟩) 1 1] (H.push (.cells [.string (bs p)] .ex 1)) fun r h' => r = .tuple #[sv (feedF x T p).2.1, .int .i64 (feedF x T p).2.2] ∧ ∃ nm', InK y b nm' (feedF x T p).1.1 (feedF x T p).1.2 h' ∧ Fr3 H y b nm h' ∧ (nm' = nm ∨ ∃ z, nm' = some z ∧ H.n ≤ z) := by
  have hj : SlJ (H.push (.cells [.string (bs p)] .ex 1)) (.slice (some ⟨H.n, 0, none⟩) 1 1) [p] :=
    ⟨H.n, 0, 1, _, .ex, 1, rfl, cellsOf_new _ _ _ _, fun _ => rfl, by simp, by simp, fun i hi => by
      match i, hi with
      | 0, _ => rfl⟩
  have k : ∀ u ob, H.m u = some ob → (H.push (.cells [.string (bs p)] .ex 1)).m u = some ob := fun u ob e => by rw [push_m, if_neg (by have := (hc u ob e).1; omega)]; exact e
  have q' := q.keep (H' := H.push (.cells [.string (bs p)] .ex 1)) fun u ob e _ => k u ob e
  refine (ifeed_ok [p] p _ _ q' hn hT0 htx (by simp [joinB]) hj (by simp) (by simp) (.inr rfl) (by simp [sumL]; omega) hpl).mono ?_
  rintro _ h9 ⟨rfl, nm', q9, f9, m9⟩
  have hp1 : (H.push (.cells [.string (bs p)] .ex 1)).n = H.n + 1 := rfl
  refine ⟨rfl, nm', q9, ⟨by have := f9.1; omega, fun u ob e => f9.2 u ob (k u ob e)⟩, ?_⟩
  rcases m9 with m | ⟨z, m, m'⟩
  · exact .inl m
  · exact .inr ⟨z, m, by omega⟩
end Go.Proofs.YtofoihlcjmghfaaGreatDoor.intc

