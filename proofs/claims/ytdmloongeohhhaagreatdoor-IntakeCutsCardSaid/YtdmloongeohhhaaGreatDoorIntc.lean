/-
  Contracts.
-/
import Derived.Test.YtdmloongeohhhaaGreatDoorIntb
import Derived.Test.YtdmloongeohhhaaGreatDoorInta
import Derived.Test.YtdmloongeohhhaaGreatDoorVerc
import Derived.Test.YtdmloongeohhhaaGreatDoorManf
import Derived.Test.YtdmloongeohhhaaGreatDoorSha
import Derived.Test.YtdmloongeohhhaaGreatDoorLin1
import Derived.Test.YtdmloongeohhhaaGreatDoorVers
import Derived.Test.YtdmloongeohhhaaGreatDoorStr
import Derived.Test.YtdmloongeohhhaaGreatDoorAbEnter
import Derived.Test.YtdmloongeohhhaaGreatDoorAbStep
import Derived.Test.YtdmloongeohhhaaGreatDoorProg
import Derived.IntWalk
import Derived.KernelRfl
set_option linter.unusedSimpArgs false
set_option linter.unusedVariables false
set_option linter.unusedSectionVars false
namespace Go.Proofs.YtdmloongeohhhaaGreatDoor.intc
open Go Go.Ab Go.Proofs Go.RowKit Go.Proofs.YtdmloongeohhhaaGreatDoor.str Go.Proofs.YtdmloongeohhhaaGreatDoor.vers Go.Proofs.YtdmloongeohhhaaGreatDoor.lin1 Go.Proofs.YtdmloongeohhhaaGreatDoor.sha Go.Proofs.YtdmloongeohhhaaGreatDoor.manf Go.Proofs.YtdmloongeohhhaaGreatDoor.verc Go.Proofs.YtdmloongeohhhaaGreatDoor.inta Go.Proofs.YtdmloongeohhhaaGreatDoor.intb
variable [Inhabited TabBox]
variable [Nonempty GF]
variable [Nonempty GE]
set_option maxRecDepth 100000
attribute [local simp] s_ops s_seq s_cond s_cond_t s_cond_f s_block s_exit s_ret s_skip s_then_n s_then_n' s_then_e s_then_e' s_then_r s_then_r' s_block_n s_block_r s_block_e s_post_r s_post_n s_res0 s_res1 s_res2 s_res3 s_res4 s_nil s_cons s_guard s_guard_tt s_guard_ff s_guard_tf s_guard_ft s_guard_u s_call s_kL s_put s_put0 s_set s_tmp s_const s_func s_glob s_init s_mkF s_mkF0 s_mv s_bin s_pick s_op aop oK_some oK_none bK_some bK_none b_add b_sub b_mul b_quo b_rem b_and b_or b_xor b_andNot b_shl b_shr b_eql b_neq b_lss b_leq b_gtr b_geq b_sadd b_seql b_sneq b_slss b_sleq b_sgtr b_sgeq s_draw s_drawT s_tK s_tT s_tF s_tB s_tR s_stage s_stage0 s_kW s_kR s_rc0 s_rc s_rcg rK_some rK_none rG_b rG_u s_callv s_callv_f s_nextM s_postR_r s_postR_n s_resA0 s_resAt s_resAc s_resC s_tup0 s_tup1 s_tup2 s_tup3
/-! an intake's run: plain laws -/
variable [Nonempty GM]
theorem take_facts (x : It) (T p : List UInt8) : (takeFI x T p).1.1.text = x.text ∧ (takeFI x T p).1.1.hd = x.hd ∧ ((takeFI x T p).2.2 ≠ 0 → (takeFI x T p).1.1.e = (takeFI x T p).2.2 ∧ (takeFI x T p).1.2 = T) ∧ (takeFI x T p).1.2.length ≤ T.length + p.length := by
  unfold takeFI
  split
  · exact ⟨rfl, rfl, fun _ => ⟨rfl, rfl⟩, by simp [spoilF]⟩
  · exact ⟨rfl, rfl, fun k => absurd rfl k, by simp⟩
theorem feed_facts (x : It) (T p : List UInt8) : ((feedF x T p).2.2 ≠ 0 → (feedF x T p).1.1.e = (feedF x T p).2.2 ∧ (feedF x T p).1.2 = T) ∧ (feedF x T p).1.1.text.length ≤ x.text.length + p.length ∧
    ((0 ≤ x.hd.n ∧ x.hd.n ≤ 16777215) → 0 ≤ (feedF x T p).1.1.hd.n ∧ (feedF x T p).1.1.hd.n ≤ 16777215) ∧ (feedF x T p).1.2.length ≤ T.length + x.text.length + p.length := by
  have happ := congrArg List.length (splF_app (x.text ++ p))
  rw [List.length_append, List.length_append] at happ
  by_cases h1 : x.e ≠ 0
  · have : feedF x T p = ((x, T), ([], x.e)) := if_pos h1
    rw [this]
    exact ⟨fun _ => ⟨rfl, rfl⟩, by simp, fun k => k, by simp; omega⟩
  cases hbg : x.bg with
  | true =>
    have : feedF x T p = takeFI x T p := by unfold feedF; rw [if_neg h1, if_pos hbg]
    rw [this]
    obtain ⟨a1, a2, a3, a4⟩ := take_facts x T p
    refine ⟨a3, by rw [a1]; omega, fun k => by rw [a2]; exact k, by omega⟩
  | false =>
    have hF0 : feedF x T p = (if (splF (x.text ++ p)).2.2 = false then (if 160 < (splF (x.text ++ p)).1.length then spoilF { x with text := (splF (x.text ++ p)).1 } T 12 else (({ x with text := (splF (x.text ++ p)).1 }, T), ([], 0)))
      else if (beginF { x with text := (splF (x.text ++ p)).1 } (splF (x.text ++ p)).1).2 ≠ 0 then spoilF (beginF { x with text := (splF (x.text ++ p)).1 } (splF (x.text ++ p)).1).1 T (beginF { x with text := (splF (x.text ++ p)).1 } (splF (x.text ++ p)).1).2
      else takeFI (beginF { x with text := (splF (x.text ++ p)).1 } (splF (x.text ++ p)).1).1 T (splF (x.text ++ p)).2.1) := by
      unfold feedF; rw [if_neg h1, if_neg (by simp [hbg])]
    rw [hF0]
    generalize splF (x.text ++ p) = w at *
    obtain ⟨t, r, en⟩ := w
    dsimp only at happ ⊢
    clear hF0
    by_cases h2 : en = false
    · rw [if_pos h2]
      by_cases h3 : 160 < t.length
      · rw [if_pos h3]
        exact ⟨fun _ => ⟨rfl, rfl⟩, by simp [spoilF]; omega, fun k => k, by simp [spoilF]; omega⟩
      · rw [if_neg h3]
        exact ⟨fun k => absurd rfl k, by simp; omega, fun k => k, by simp; omega⟩
    · rw [if_neg h2]
      by_cases h3 : (beginF { x with text := t } t).2 ≠ 0
      · rw [if_pos h3]
        have hb := begin_err h3
        refine ⟨fun _ => ⟨rfl, rfl⟩, ?_, ?_, ?_⟩
        · show (beginF { x with text := t } t).1.text.length ≤ _
          rw [hb]; simp; omega
        · intro k
          show 0 ≤ (beginF { x with text := t } t).1.hd.n ∧ _
          rw [hb]; exact k
        · show T.length ≤ _
          omega
      · rw [if_neg h3]
        have h3' : (beginF { x with text := t } t).2 = 0 := Classical.not_not.1 h3
        obtain ⟨e1, e2, _, _⟩ := begin_ok h3'
        have hn := (parF_ok e2).1.2
        obtain ⟨a1, a2, a3, a4⟩ := take_facts (beginF { x with text := t } t).1 T r
        refine ⟨a3, ?_, ?_, by omega⟩
        · rw [a1, e1]; simp; omega
        · intro _; rw [a2, e1]; exact hn
/-- where an intake is that was fed S, piece by piece -/
structure Run (room fa fb fc : Int) (S : List UInt8) (X : It) (T acc : List UInt8) (err : Int) : Prop where
  err_eq : err = (allF room fa fb fc S).2.2
  ok : err = 0 → (X, T) = (allF room fa fb fc S).1 ∧ acc = (allF room fa fb fc S).2.1
  bad : err ≠ 0 → X.e = err
  hd : X.hd = (allF room fa fb fc S).1.1.hd
  bg : X.bg = (allF room fa fb fc S).1.1.bg
  hn : 0 ≤ X.hd.n ∧ X.hd.n ≤ 16777215
  tl : T.length ≤ S.length
  xl : X.text.length ≤ S.length
theorem all_nil (room fa fb fc : Int) : allF room fa fb fc [] = ((it0 room fa fb fc, []), ([], 0)) := by
  have hs : splF ([] : List UInt8) = ([], [], false) := by
    have := splF_V []
    rcases this with ⟨i, h1, _⟩ | ⟨_, h3⟩
    · exact absurd (getI h1.1) (by simp)
    · simp only [sv, Value.tuple.injEq, Array.mk.injEq, List.cons.injEq, Value.string.injEq, Value.bool.injEq, and_true, bs_inj] at h3
      exact Prod.ext h3.1 (Prod.ext h3.2.1 h3.2.2)
  unfold allF feedF
  rw [if_neg (by simp [it0]), if_neg (by simp [it0])]
  simp only [it0, List.nil_append, hs]
  rw [if_pos trivial, if_neg (by simp)]
theorem run_zero (room fa fb fc : Int) : Run room fa fb fc [] (it0 room fa fb fc) [] [] 0 := by
  have h := all_nil room fa fb fc
  exact ⟨by rw [h], fun _ => by rw [h]; exact ⟨rfl, rfl⟩, fun k => absurd rfl k, by rw [h], by rw [h], by simp [it0, zH], by simp, by simp [it0]⟩
theorem run_next {room fa fb fc : Int} {S : List UInt8} {X : It} {T acc : List UInt8} {err : Int} (r : Run room fa fb fc S X T acc err) (p : List UInt8) :
    Run room fa fb fc (S ++ p) (feedF X T p).1.1 (feedF X T p).1.2 (acc ++ (feedF X T p).2.1) (if err = 0 then (feedF X T p).2.2 else err) ∧ (err ≠ 0 → (feedF X T p).2 = ([], err)) := by
  obtain ⟨f1, f2, f3, f4⟩ := feed_facts X T p
  have hSp : (S ++ p).length = S.length + p.length := List.length_append
  by_cases he : err = 0
  · obtain ⟨o1, o2⟩ := r.ok he
    have hA : (allF room fa fb fc S).2.2 = 0 := by rw [← r.err_eq, he]
    obtain ⟨g1, g2, g3, g4⟩ := feed_next room fa fb fc S p hA
    rw [← o1, ← o2] at g4
    rw [← o1] at g1 g2 g3
    dsimp only at g1 g2 g3 g4
    have tb := feed_facts (it0 room fa fb fc) [] (S ++ p)
    rw [if_pos he]
    refine ⟨⟨g1, fun k => ?_, fun k => (f1 k).1, g2, g3, f3 r.hn, ?_, by have := r.xl; omega⟩, fun k => absurd he k⟩
    · rw [g1] at k
      exact ⟨(g4 k).1, (g4 k).2⟩
    · by_cases k : (feedF X T p).2.2 = 0
      · rw [g1] at k
        rw [(g4 k).1]
        have := tb.2.2.2
        simpa [it0, allF] using this
      · rw [(f1 k).2]
        have := r.tl
        omega
  · have hx := r.bad he
    have hF : feedF X T p = ((X, T), ([], X.e)) := if_pos (by rw [hx]; exact he)
    have hA : (allF room fa fb fc S).2.2 ≠ 0 := by rw [← r.err_eq]; exact he
    obtain ⟨g1, g2, g3⟩ := feed_err room fa fb fc S p hA
    rw [if_neg he, hF]
    exact ⟨⟨by rw [g1]; exact r.err_eq, fun k => absurd k he, fun _ => hx, by rw [g2]; exact r.hd, by rw [g3]; exact r.bg, r.hn, by show T.length ≤ _; have := r.tl; omega, by show X.text.length ≤ _; have := r.xl; omega⟩, fun _ => by rw [hx]⟩
/-- two runs over the same bytes end alike -/
theorem run_fin {room fa fb fc : Int} {S : List UInt8} {X Y : It} {T U a c : List UInt8} {e f : Int} (r : Run room fa fb fc S X T a e) (q : Run room fa fb fc S Y U c f) : e = f ∧ finF X T = finF Y U ∧ (e = 0 → a = c) := by
  have h := r.err_eq.trans q.err_eq.symm
  subst h
  by_cases he : e = 0
  · have h1 := (r.ok he).1.trans (q.ok he).1.symm
    have h2 := (r.ok he).2.trans (q.ok he).2.symm
    simp only [Prod.mk.injEq] at h1
    rw [h1.1, h1.2]
    exact ⟨rfl, rfl, fun _ => h2⟩
  · refine ⟨rfl, ?_, fun k => absurd k he⟩
    have h1 : finF X T = (zH, X.e) := if_pos (by rw [r.bad he]; exact he)
    have h2 : finF Y U = (zH, Y.e) := if_pos (by rw [q.bad he]; exact he)
    rw [h1, h2, r.bad he, q.bad he]
theorem fin_len {X : It} {T : List UInt8} (h : X.hd.hs.length = 32) : (finF X T).1.hs.length = 32 := by
  unfold finF
  split
  · exact z32_len
  · split
    · exact z32_len
    · split
      · exact z32_len
      · exact h

def c5_0 : AC := .seq (.ops [⟨ some 50, none, .bin .lss (.tmp 49) (.tmp 48) ⟩]) (.seq (.cond (.tmp 50) .skip (.exit 0)) (.seq (.block 1 (.seq (.ops [⟨ some 51, none, .iAddrS 1 (.tmp 47) (.tmp 49) ⟩, ⟨ some 52, none, .load none (.tmp 51) ⟩, ⟨ some 15, none, .mv (.tmp 52) ⟩]) (.seq (.ops [⟨ some 53, none, .mv (.tmp 15) ⟩, ⟨ some 54, none, .mx [.tmp 53, .const (.int .i64 0)] ⟩, ⟨ some 55, none, .mv (.tmp 13) ⟩, ⟨ some 56, none, .lenS true (.tmp 55) ⟩, ⟨ some 57, none, .mn [.tmp 54, .tmp 56] ⟩, ⟨ some 16, none, .mv (.tmp 57) ⟩]) (.seq (.ops [⟨ some 59, none, .mv (.tmp 8) ⟩, ⟨ some 60, none, .mv (.tmp 13) ⟩, ⟨ some 61, none, .mv (.tmp 16) ⟩, ⟨ some 62, none, .slS (.tmp 60) none (some (.tmp 61)) ⟩, ⟨ some 63, none, .buildS 1 [.string ⟨ ⟨[] ⟩ ⟩] [(0, 1, .tmp 62)] ⟩, ⟨ some 64, none, .call 24 [.tmp 59, .tmp 63] ⟩, ⟨ some 58, none, .mv (.tmp 64) ⟩, ⟨ some 65, none, .extr (.tmp 58) 0 ⟩, ⟨ some 66, none, .extr (.tmp 58) 1 ⟩, ⟨ some 17, none, .mv (.tmp 65) ⟩, ⟨ some 18, none, .mv (.tmp 66) ⟩]) (.seq (.ops [⟨ some 67, none, .mv (.tmp 11) ⟩, ⟨ some 68, none, .mv (.tmp 17) ⟩, ⟨ some 69, none, .bin .add (.tmp 67) (.tmp 68) ⟩, ⟨ some 11, none, .mv (.tmp 69) ⟩]) (.seq (.ops [⟨ some 70, none, .mv (.tmp 13) ⟩, ⟨ some 71, none, .mv (.tmp 16) ⟩, ⟨ some 72, none, .slS (.tmp 70) (some (.tmp 71)) none ⟩, ⟨ some 13, none, .mv (.tmp 72) ⟩]) (.seq (.ops [⟨ some 73, none, .mv (.tmp 12) ⟩, ⟨ some 74, none, .bin .eql (.tmp 73) (.const (.int .i64 0)) ⟩]) (.cond (.tmp 74) (.ops [⟨ some 75, none, .mv (.tmp 18) ⟩, ⟨ some 12, none, .mv (.tmp 75) ⟩]) .skip)))))))) (.ops [⟨ some 76, none, .bin .add (.tmp 49) (.const (.int .i64 1)) ⟩, ⟨ some 49, none, .mv (.tmp 76) ⟩])))
def c5 : AC := .seq (.ops [⟨ some 5, none, .box (.tmp 2) ⟩, ⟨ some 6, none, .mv (.const (.bool false)) ⟩]) (.seq (.seq (.ops [⟨ some 25, none, .call 22 [] ⟩, ⟨ some 26, none, .un .not (.tmp 25) ⟩]) (.cond (.tmp 26) (.seq (.ops [⟨ some 6, none, .mv (.const (.bool false)) ⟩]) .ret) .skip)) (.seq (.seq (.ops [⟨ some 27, none, .mv (.tmp 0) ⟩, ⟨ some 28, none, .lenS true (.tmp 27) ⟩, ⟨ some 29, none, .bin .gtr (.tmp 28) (.const (.int .i64 2000)) ⟩, ⟨ some 30, none, .mv (.tmp 29) ⟩, ⟨ some 31, some (30, false), .mv (.tmp 1) ⟩, ⟨ some 32, some (30, false), .lenS false (.tmp 31) ⟩, ⟨ some 33, some (30, false), .bin .gtr (.tmp 32) (.const (.int .i64 60)) ⟩, ⟨ some 34, none, .pick (.tmp 30) (.const (.bool true)) (.tmp 33) ⟩]) (.cond (.tmp 34) (.seq (.ops [⟨ some 6, none, .mv (.const (.bool true)) ⟩]) .ret) .skip)) (.seq (.draw [([⟨ some 35, none, .load (some 3) (.tmp 5) ⟩, ⟨ some 37, none, .load (some 3) (.tmp 5) ⟩], [⟨ some 36, none, .call 23 [.const (.int .i64 1000), .tmp 35] ⟩], [⟨ some 37, none, .load (some 3) (.tmp 5) ⟩]), ([], [⟨ some 38, none, .call 23 [.const (.int .i64 1000), .tmp 37] ⟩], []), ([⟨ some 7, none, .mv (.tmp 36) ⟩, ⟨ some 8, none, .mv (.tmp 38) ⟩], [], [])]) (.seq (.ops [⟨ some 40, none, .mv (.tmp 7) ⟩, ⟨ some 41, none, .mv (.tmp 0) ⟩, ⟨ some 42, none, .buildS 1 [.string ⟨ ⟨[] ⟩ ⟩] [(0, 1, .tmp 41)] ⟩, ⟨ some 43, none, .call 24 [.tmp 40, .tmp 42] ⟩, ⟨ some 39, none, .mv (.tmp 43) ⟩, ⟨ some 44, none, .extr (.tmp 39) 0 ⟩, ⟨ some 45, none, .extr (.tmp 39) 1 ⟩, ⟨ some 9, none, .mv (.tmp 44) ⟩, ⟨ some 10, none, .mv (.tmp 45) ⟩]) (.seq (.ops [⟨ some 11, none, .mv (.const (.string ⟨ ⟨[] ⟩ ⟩)) ⟩, ⟨ some 12, none, .mv (.const (.int .i64 0)) ⟩]) (.seq (.ops [⟨ some 46, none, .mv (.tmp 0) ⟩, ⟨ some 13, none, .mv (.tmp 46) ⟩]) (.seq (.seq (.ops [⟨ some 47, none, .mv (.tmp 1) ⟩, ⟨ some 48, none, .lenS false (.tmp 47) ⟩, ⟨ some 49, none, .mv (.const (.int .i64 0)) ⟩]) (.block 0 (.loop c5_0))) (.seq (.ops [⟨ some 78, none, .mv (.tmp 8) ⟩, ⟨ some 79, none, .mv (.tmp 13) ⟩, ⟨ some 80, none, .buildS 1 [.string ⟨ ⟨[] ⟩ ⟩] [(0, 1, .tmp 79)] ⟩, ⟨ some 81, none, .call 24 [.tmp 78, .tmp 80] ⟩, ⟨ some 77, none, .mv (.tmp 81) ⟩, ⟨ some 82, none, .extr (.tmp 77) 0 ⟩, ⟨ some 83, none, .extr (.tmp 77) 1 ⟩, ⟨ some 19, none, .mv (.tmp 82) ⟩, ⟨ some 20, none, .mv (.tmp 83) ⟩]) (.seq (.ops [⟨ some 84, none, .mv (.tmp 11) ⟩, ⟨ some 85, none, .mv (.tmp 19) ⟩, ⟨ some 86, none, .bin .add (.tmp 84) (.tmp 85) ⟩, ⟨ some 11, none, .mv (.tmp 86) ⟩]) (.seq (.seq (.ops [⟨ some 87, none, .mv (.tmp 12) ⟩, ⟨ some 88, none, .bin .eql (.tmp 87) (.const (.int .i64 0)) ⟩]) (.cond (.tmp 88) (.ops [⟨ some 89, none, .mv (.tmp 20) ⟩, ⟨ some 12, none, .mv (.tmp 89) ⟩]) .skip)) (.seq (.ops [⟨ some 91, none, .mv (.tmp 7) ⟩, ⟨ some 92, none, .call 25 [.tmp 91] ⟩, ⟨ some 90, none, .mv (.tmp 92) ⟩, ⟨ some 93, none, .extr (.tmp 90) 0 ⟩, ⟨ some 94, none, .extr (.tmp 90) 1 ⟩, ⟨ some 21, none, .alloc z36 ⟩, ⟨ none, none, .store 36 (.tmp 21) (.tmp 93) ⟩, ⟨ some 22, none, .mv (.tmp 94) ⟩]) (.seq (.ops [⟨ some 96, none, .mv (.tmp 8) ⟩, ⟨ some 97, none, .call 25 [.tmp 96] ⟩, ⟨ some 95, none, .mv (.tmp 97) ⟩, ⟨ some 98, none, .extr (.tmp 95) 0 ⟩, ⟨ some 99, none, .extr (.tmp 95) 1 ⟩, ⟨ some 23, none, .alloc z36 ⟩, ⟨ none, none, .store 36 (.tmp 23) (.tmp 98) ⟩, ⟨ some 24, none, .mv (.tmp 99) ⟩]) (.seq (.ops [⟨ some 100, none, .mv (.tmp 10) ⟩, ⟨ some 101, none, .mv (.tmp 12) ⟩, ⟨ some 102, none, .bin .eql (.tmp 100) (.tmp 101) ⟩, ⟨ some 103, none, .mv (.tmp 102) ⟩, ⟨ some 104, some (103, true), .load (some 36) (.tmp 21) ⟩, ⟨ some 105, some (103, true), .load (some 36) (.tmp 23) ⟩, ⟨ some 106, some (103, true), .eqa false (ckl 36) (.tmp 104) (.tmp 105) ⟩, ⟨ some 107, none, .pick (.tmp 103) (.tmp 106) (.const (.bool false)) ⟩, ⟨ some 108, none, .mv (.tmp 107) ⟩, ⟨ some 109, some (108, true), .mv (.tmp 22) ⟩, ⟨ some 110, some (108, true), .mv (.tmp 24) ⟩, ⟨ some 111, some (108, true), .bin .eql (.tmp 109) (.tmp 110) ⟩, ⟨ some 112, none, .pick (.tmp 108) (.tmp 111) (.const (.bool false)) ⟩, ⟨ some 113, none, .mv (.tmp 112) ⟩, ⟨ some 114, some (113, true), .mv (.tmp 10) ⟩, ⟨ some 115, some (113, true), .bin .neq (.tmp 114) (.const (.int .i64 0)) ⟩, ⟨ some 116, some (113, true), .mv (.tmp 115) ⟩, ⟨ some 117, some (116, false), .mv (.tmp 9) ⟩, ⟨ some 118, some (116, false), .mv (.tmp 11) ⟩, ⟨ some 119, some (116, false), .bin .eql (.tmp 117) (.tmp 118) ⟩, ⟨ some 120, some (113, true), .pick (.tmp 116) (.const (.bool true)) (.tmp 119) ⟩, ⟨ some 121, none, .pick (.tmp 113) (.tmp 120) (.const (.bool false)) ⟩, ⟨ some 6, none, .mv (.tmp 121) ⟩]) .ret)))))))))))))
theorem k5 : compF Tryz.prog Tryz.f5 = some (c5, [6]) := by kernel_rfl
theorem n5 : Tryz.f5.ntmps = 122 := by kernel_rfl
/-! IntakeCuts -/
variable [Nonempty GM]
def cI (n : Int) : Value := .int .i64 n
theorem feed_out (x : It) (T p : List UInt8) : (feedF x T p).2.1.length ≤ x.text.length + p.length := by
  have happ := congrArg List.length (splF_app (x.text ++ p))
  rw [List.length_append, List.length_append] at happ
  have tk : ∀ (x : It) (T p : List UInt8), (takeFI x T p).2.1.length ≤ p.length := fun x T p => by
    unfold takeFI
    split
    · simp [spoilF]
    · exact Nat.le_refl _
  unfold feedF
  split
  · simp
  · split
    · have := tk x T p; omega
    · split
      · split
        · simp [spoilF]
        · simp
      · split
        · simp [spoilF]
        · have := tk (beginF { x with text := (splF (x.text ++ p)).1 } (splF (x.text ++ p)).1).1 T (splF (x.text ++ p)).2.1
          omega
theorem feed1_ok {y b : Nat} {nm : Option Nat} {x : It} {T : List UInt8} (p : List UInt8) (H : Heap) (hc : H.Closed) (q : InK y b nm x T H) (hn : 0 ≤ x.hd.n ∧ x.hd.n ≤ 16777215) (hT0 : T.length ≤ 1000000) (htx : x.text.length ≤ 500000) (hpl : p.length ≤ 100000) :
    ACalls Tryz.prog 24 [.pointer (some ⟨y, 0, none⟩), .slice (some ⟨H.n, 0, none⟩) 1 1] (H.push (.cells [.string (bs p)] .ex 1)) fun r h' => r = .tuple #[sv (feedF x T p).2.1, .int .i64 (feedF x T p).2.2] ∧ ∃ nm', InK y b nm' (feedF x T p).1.1 (feedF x T p).1.2 h' ∧ Fr3 H y b nm h' ∧ (nm' = nm ∨ ∃ z, nm' = some z ∧ H.n ≤ z) := by
  have hj : SlJ (H.push (.cells [.string (bs p)] .ex 1)) (.slice (some ⟨H.n, 0, none⟩) 1 1) [p] :=
    ⟨H.n, 0, 1, _, .ex, 1, rfl, cellsOf_new _ _ _ _, fun _ => rfl, by simp, by simp, fun i hi => by
      match i, hi with
      | 0, _ => rfl⟩
  have k : ∀ u ob, H.m u = some ob → (H.push (.cells [.string (bs p)] .ex 1)).m u = some ob := fun u ob e => by rw [push_m, if_neg (by have := (hc u ob e).1; omega)]; exact e
  have q' := q.keep (H' := H.push (.cells [.string (bs p)] .ex 1)) fun u ob e _ => k u ob e
  refine (ifeed_ok [p] p _ _ q' hn hT0 htx (by simp [joinB]) hj (by simp) (by simp) (.inr rfl) (by simp [sumL]; omega) hpl).mono ?_
  rintro _ h9 ⟨rfl, nm', q9, f9, m9⟩
  have hp1 : (H.push (.cells [.string (bs p)] .ex 1)).n = H.n + 1 := rfl
  refine ⟨rfl, nm', q9, ⟨by have := f9.1; omega, fun u ob e => f9.2 u ob (k u ob e)⟩, ?_⟩
  rcases m9 with m | ⟨z, m, m'⟩
  · exact .inl m
  · exact .inr ⟨z, m, by omega⟩
structure CutS where
  i : Nat
  S : List UInt8
  R : List UInt8
  X : It
  T : List UInt8
  acc : List UInt8
  err : Int
  nm : Option Nat
  H : Heap
/-- an intake stays through another's steps -/
theorem ink_other {y b y2 b2 : Nat} {nm nm2 : Option Nat} {x : It} {T : List UInt8} {H H' : Heap} (q : InK y b nm x T H) (f : Fr3 H y2 b2 nm2 H') (h1 : y ≠ y2) (h2 : y ≠ b2) (h3 : nm2 ≠ some y) (h4 : b ≠ y2) (h5 : b ≠ b2) (h6 : nm2 ≠ some b) (h7 : ∀ u, nm = some u → u ≠ y2 ∧ u ≠ b2 ∧ nm2 ≠ some u) : InK y b nm x T H' :=
  q.keep fun z ob e k => by
    rcases k with rfl | rfl | k
    · exact f.2 _ ob e h1 h2 h3
    · exact f.2 _ ob e h4 h5 h6
    · obtain ⟨a1, a2, a3⟩ := h7 z k
      exact f.2 _ ob e a1 a2 a3
set_option maxHeartbeats 2000000 in
theorem intakeCuts_law (s : List UInt8) (cuts : List Int) (v : Value) (fa fb fc : Int) (h : Heap) (hl : Sl cI h v cuts) : ACalls Tryz.prog 5 [.string (bs s), v, .agg (iv fa fb fc).toArray] h fun v _ => v = .bool true ∧ True := by
  refine acalls_of mix Tryz.func5 k5 n5 (by simp) fun hcl hb => ?_
  have bl := hl.below hcl
  obtain ⟨a, c, rfl⟩ := hl.form
  have hsv : ∀ l, sv l = .string (bs l) := fun _ => rfl
  have hzl : zH.hs.length = 32 := z32_len
  have hlz := hc_len hzl
  have hfz : afill (hc zH) [] = some (hc zH) := rfl
  have hpx : ∀ z : Hd, z.hs.length = 32 → aput (hc zH) 0 (hc z) = hc z := fun z hz => by
    unfold aput
    rw [hc_len hz, List.drop_eq_nil_of_le (by rw [hlz]; omega)]
    simp
  have hac : ∀ x : Hd, x.hs.length = 32 → acut (hc x) 0 36 = some (hc x) := fun x hx => acut_full (hc_len hx)
  have fil1 : ∀ a : List UInt8, afill [.string (bs [])] [(0, 1, .string (bs a))] = some [.string (bs a)] := fun _ => rfl
  have f0 := cellsOf_new h (iv fa fb fc) .ex 1
  have n0 : (h.push (.cells (iv fa fb fc) .ex 1)).n = h.n + 1 := rfl
  have c0 : (h.push (.cells (iv fa fb fc) .ex 1)).Closed := closed_push hcl iv_bel
  have k0 : ∀ u ob, h.m u = some ob → (h.push (.cells (iv fa fb fc) .ex 1)).m u = some ob := fun u ob e => by rw [push_m, if_neg (by have := (hcl u ob e).1; omega)]; exact e
  simp only [c5, s_seq, s_ops]
  simp [mc_iv, bs_lit]
  generalize h.push (.cells (iv fa fb fc) .ex 1) = H0 at *
  refine (awake20_ok H0).mono ?_
  rintro _ h9 ⟨rfl, e⟩
  rw [e]; clear e h9
  by_cases h1 : 2000 < s.length
  · have h1' : (2000 : Int) < (s.length : Int) := by omega
    simp [aun, bs_size, h1']
  have h1' : ¬ (2000 : Int) < (s.length : Int) := by omega
  by_cases h2 : 60 < cuts.length
  · have h2' : (60 : Int) < (cuts.length : Int) := by omega
    simp [aun, bs_size, h1', h2']
  have h2' : ¬ (60 : Int) < (cuts.length : Int) := by omega
  simp [aun, bs_size, h1', h2', f0, acut_iv, apart]
  refine (inew_ok 1000 fa fb fc H0).mono' ?_
  rintro _ H1 hc1 _ ⟨y1, b1, rfl, hy1, hb1, q1, s1⟩
  have f1 := cellsOf_keep s1.sub f0
  have hn1 := s1.hi
  have hy1n := cellsOf_lt hc1 q1.cy
  have hb1n := (digK_lt hc1 q1.d).1
  simp [f1, acut_iv, apart]
  refine (inew_ok 1000 fa fb fc H1).mono' ?_
  rintro _ H2 hc2 _ ⟨y2, b2, rfl, hy2, hb2, q2, s2⟩
  have hn2 := s2.hi
  have hy2n := cellsOf_lt hc2 q2.cy
  have hb2n := (digK_lt hc2 q2.d).1
  have q1a := q1.keep fun u ob e _ => s2.sub u ob e
  simp [fil1, bs_lit]
  refine (feed1_ok s H2 hc2 q1a (by simp [it0, zH]) (by simp) (by simp [it0]) (by omega)).mono' ?_
  rintro _ H3 hc3 _ ⟨rfl, nm1, q3, fr3, m3⟩
  have hr1 := (run_next (run_zero 1000 fa fb fc) s).1
  rw [if_pos rfl, List.nil_append, List.nil_append] at hr1
  have hln := fr3.1
  have q2a : InK y2 b2 none (it0 1000 fa fb fc) [] H3 := ink_other q2 fr3 (by omega) (by omega) (by simp) (by omega) (by omega) (by simp) (fun u e => by cases e)
  have hnm1 : ∀ u, nm1 = some u → H2.n ≤ u ∧ u < H3.n := fun u e => by
    refine ⟨?_, (digK_lt hc3 q3.d).2 u e⟩
    rcases m3 with m | ⟨z, m, m'⟩
    · rw [m] at e; cases e
    · rw [m] at e; cases e; exact m'
  have hk3 : ∀ u ob, h.m u = some ob → H3.m u = some ob := fun u ob e => by
    have := (hcl u ob e).1
    exact fr3.2 u ob (s2.sub u ob (s1.sub u ob (k0 u ob e))) (by omega) (by omega) (by simp)
  simp [hsv]
  generalize feedF (it0 1000 fa fb fc) [] s = w1 at *
  obtain ⟨⟨X1, T1⟩, ⟨a1, e1⟩⟩ := w1
  dsimp only at hr1 q3 ⊢
  obtain ⟨N3, hN3⟩ : ∃ N3, H3.n = N3 := ⟨_, rfl⟩
  refine awp_loop_of (α := CutS) (fun z => z.i ≤ cuts.length ∧ z.S ++ z.R = s ∧ Run 1000 fa fb fc z.S z.X z.T z.acc z.err ∧ InK y2 b2 z.nm z.X z.T z.H ∧ InK y1 b1 nm1 X1 T1 z.H ∧ (∀ u, z.nm = some u → N3 ≤ u) ∧ z.H.Closed ∧ N3 ≤ z.H.n ∧ (∀ u ob, h.m u = some ob → z.H.m u = some ob) ∧ z.acc.length ≤ z.i * 4000)
    (fun z => [(7, .pointer (some ⟨y1, 0, none⟩)), (8, .pointer (some ⟨y2, 0, none⟩)), (9, .string (bs a1)), (10, .int .i64 e1), (11, .string (bs z.acc)), (12, .int .i64 z.err), (13, .string (bs z.R)), (47, .slice a cuts.length c), (48, .int .i64 cuts.length), (49, .int .i64 z.i)]) (fun z => z.H) (fun z => cuts.length - z.i)
    ⟨0, [], s, it0 1000 fa fb fc, [], [], 0, none, H3⟩ ⟨Nat.zero_le _, rfl, run_zero 1000 fa fb fc, q2a, q3, (fun u e => by cases e), hc3, by show N3 ≤ H3.n; omega, hk3, by simp⟩ ⟨by show h.n ≤ H3.n; omega, Nat.le_refl _, fun _ _ e => e, hc3⟩
    (by simp; exact ⟨.ptr (by show y1 < H3.n; omega), .ptr (by show y2 < H3.n; omega), .string, .int, .string, .int, .string, bl.mono (by show h.n ≤ H3.n; omega), .int, .int⟩) ?_
  rintro ⟨i, S, R, X, T, acc, err, nm, H⟩ ⟨hi, hS, hr, q, k, hnm, hcH, hNH, hk, hacc⟩
  dsimp only at hi hS hr q k hnm hcH hNH hk hacc ⊢
  have hlS := congrArg List.length hS
  rw [List.length_append] at hlS
  have hXt := hr.xl
  have hTt := hr.tl
  have hlH := hl.keep hk
  have hsep : ∀ u, nm1 = some u → u ≠ y2 ∧ u ≠ b2 ∧ nm ≠ some u := fun u e => by
    have := hnm1 u e
    exact ⟨by omega, by omega, fun e2 => by have := hnm u e2; omega⟩
  by_cases hlt : i < cuts.length
  · have hi' : (i : Int) < (cuts.length : Int) := by omega
    obtain ⟨bb, o, cs, m, e, rfl, _, hcell, hget2⟩ := Sl.at hlH hlt
    have w4 : IntKind.i64.wrap ((i : Int) + 1) = ((i + 1 : Nat) : Int) := w1 i (by omega)
    have iX : aidx (.int .i64 (i : Int)) cuts.length = some i := aidx_of hlt
    obtain ⟨cut, hcut⟩ : ∃ cut, cuts[i] = cut := ⟨_, rfl⟩
    obtain ⟨kk, hkk⟩ : ∃ kk : Nat, min (max cut 0) (R.length : Int) = (kk : Int) := ⟨(min (max cut 0) (R.length : Int)).toNat, by omega⟩
    have hkl : kk ≤ R.length := by omega
    have b1' : abounds R.length R.length none (some (.int .i64 (kk : Int))) none = some (0, kk, R.length) := abounds_hi hkl
    have b2' : abounds R.length R.length (some (.int .i64 (kk : Int))) none none = some (kk, R.length, R.length) := abounds_lo hkl (Nat.le_refl _)
    have x1 : (bs R).extract 0 kk = bs (R.take kk) := by rw [bs_extract, List.drop_zero]
    have x2 : (bs R).extract kk R.length = bs (R.drop kk) := by rw [bs_extract, List.take_of_length_le (Nat.le_refl _)]
    have hout := feed_out X T (R.take kk)
    have hrn := run_next hr (R.take kk)
    have htk : (R.take kk).length ≤ R.length := by rw [List.length_take]; omega
    simp [c5_0, hi', iX, hcell, apart, hget2, hcut, cI, afold, amax2, amin2, bs_size, hkk, b1', b2', x1, x2, fil1, bs_lit, -Int.natCast_add]
    refine (feed1_ok (R.take kk) H hcH q hr.hn (by omega) (by omega) (by omega)).mono' ?_
    rintro _ H5 hc5 _ ⟨rfl, nm5, q5, f5, m5⟩
    have hfn := f5.1
    have k5 : InK y1 b1 nm1 X1 T1 H5 := ink_other k f5 (by omega) (by omega) (fun e => by have := hnm _ e; omega) (by omega) (by omega) (fun e => by have := hnm _ e; omega) hsep
    have hnm5 : ∀ u, nm5 = some u → N3 ≤ u := fun u e => by
      rcases m5 with m | ⟨z, m, m'⟩
      · rw [m] at e; exact hnm u e
      · rw [m] at e; cases e; omega
    have hk5 : ∀ u ob, h.m u = some ob → H5.m u = some ob := fun u ob e => by
      have := (hcl u ob e).1
      exact f5.2 u ob (hk u ob e) (by omega) (by omega) (fun e => by have := hnm _ e; omega)
    have za : acc.length + (feedF X T (R.take kk)).2.1.length ≤ 9223372036854775807 := by omega
    by_cases he : err = 0
    · rw [if_pos he] at hrn
      simp [hsv, bs_size, bs_append, za, b2', x2, he, w4, -Int.natCast_add]
      exact ⟨⟨i + 1, S ++ R.take kk, R.drop kk, (feedF X T (R.take kk)).1.1, (feedF X T (R.take kk)).1.2, acc ++ (feedF X T (R.take kk)).2.1, (feedF X T (R.take kk)).2.2, nm5, H5⟩, by show cuts.length - (i + 1) < cuts.length - i; omega, ⟨by show i + 1 ≤ cuts.length; omega, by show (S ++ R.take kk) ++ R.drop kk = s; rw [List.append_assoc, List.take_append_drop]; exact hS, hrn.1, q5, k5, hnm5, hc5, by show N3 ≤ H5.n; omega, hk5, by show (acc ++ _).length ≤ (i + 1) * 4000; rw [List.length_append]; omega⟩, ⟨by show h.n ≤ H5.n; omega, Nat.le_refl _, fun _ _ e => e, hc5⟩, .ptr (by show y1 < H5.n; omega), .ptr (by show y2 < H5.n; omega), .string, .int, ⟨rfl, .string⟩, ⟨rfl, .int⟩, ⟨rfl, .string⟩, bl.mono (by show h.n ≤ H5.n; omega), .int, rfl, .int⟩
    · rw [if_neg he] at hrn
      simp [hsv, bs_size, bs_append, za, b2', x2, he, w4, -Int.natCast_add]
      exact ⟨⟨i + 1, S ++ R.take kk, R.drop kk, (feedF X T (R.take kk)).1.1, (feedF X T (R.take kk)).1.2, acc ++ (feedF X T (R.take kk)).2.1, err, nm5, H5⟩, by show cuts.length - (i + 1) < cuts.length - i; omega, ⟨by show i + 1 ≤ cuts.length; omega, by show (S ++ R.take kk) ++ R.drop kk = s; rw [List.append_assoc, List.take_append_drop]; exact hS, hrn.1, q5, k5, hnm5, hc5, by show N3 ≤ H5.n; omega, hk5, by show (acc ++ _).length ≤ (i + 1) * 4000; rw [List.length_append]; omega⟩, ⟨by show h.n ≤ H5.n; omega, Nat.le_refl _, fun _ _ e => e, hc5⟩, .ptr (by show y1 < H5.n; omega), .ptr (by show y2 < H5.n; omega), .string, .int, ⟨rfl, .string⟩, ⟨rfl, .int⟩, ⟨rfl, .string⟩, bl.mono (by show h.n ≤ H5.n; omega), .int, rfl, .int⟩
  · have hie : i = cuts.length := by omega
    have hi' : ¬ (i : Int) < (cuts.length : Int) := by omega
    have hout := feed_out X T R
    have hrn := run_next hr R
    rw [hS] at hrn
    simp [c5_0, hi', fil1, bs_lit]
    refine (feed1_ok R H hcH q hr.hn (by omega) (by omega) (by omega)).mono' ?_
    rintro _ H5 hc5 _ ⟨rfl, nm5, q5, f5, m5⟩
    have k5 : InK y1 b1 nm1 X1 T1 H5 := ink_other k f5 (by omega) (by omega) (fun e => by have := hnm _ e; omega) (by omega) (by omega) (fun e => by have := hnm _ e; omega) hsep
    have ht1 := hr1.tl
    have htn := hrn.1.tl
    have za : acc.length + (feedF X T R).2.1.length ≤ 9223372036854775807 := by omega
    by_cases he : err = 0
    · rw [if_pos he] at hrn
      simp [hsv, bs_size, bs_append, za, he]
      refine (ifinish_ok H5 k5 (by omega)).mono ?_
      rintro _ h9 ⟨rfl, e⟩
      rw [e]; clear e h9
      have hL1 := fin_len (T := T1) q3.hl
      obtain ⟨u1, u2, u3⟩ := run_fin hr1 hrn.1
      rw [← u1]
      have fz5 := cellsOf_new H5 (hc zH) .ex 1
      have f6 := cellsOf_new H5 (hc (finF X1 T1).1) .ex 1
      have n6 : (H5.push (.cells (hc (finF X1 T1).1) .ex 1)).n = H5.n + 1 := rfl
      have k6 : ∀ u ob, H5.m u = some ob → (H5.push (.cells (hc (finF X1 T1).1) .ex 1)).m u = some ob := fun u ob e => by rw [push_m, if_neg (by have := (hc5 u ob e).1; omega)]; exact e
      have q6 := q5.keep (H' := H5.push (.cells (hc (finF X1 T1).1) .ex 1)) fun u ob e _ => k6 u ob e
      simp [z36_eq, hfz, fz5, m_hv, m_hc, hlz, hc_len hL1, hpx _ hL1, set_push]
      generalize H5.push (.cells (hc (finF X1 T1).1) .ex 1) = H6 at *
      refine (ifinish_ok H6 q6 (by omega)).mono ?_
      rintro _ h9 ⟨rfl, e⟩
      rw [e]; clear e h9
      rw [← u2]
      have fz6 := cellsOf_new H6 (hc zH) .ex 1
      have f7 := cellsOf_new H6 (hc (finF X1 T1).1) .ex 1
      have f6' : ∀ o, (H6.push o).cellsOf H5.n = some (hc (finF X1 T1).1, .ex, 1) := fun o => by rw [cellsOf_ne (by omega)]; exact f6
      have hd := hc_dec hL1 hL1
      by_cases hz : e1 = 0
      · have hac1 := u3 hz
        simp [z36_eq, hfz, fz6, m_hv, m_hc, hlz, hc_len hL1, hpx _ hL1, set_push, f6', f7, hac _ hL1, apart, hd, hz, hac1]
      · simp [z36_eq, hfz, fz6, m_hv, m_hc, hlz, hc_len hL1, hpx _ hL1, set_push, f6', f7, hac _ hL1, apart, hd, hz]
    · rw [if_neg he] at hrn
      simp [hsv, bs_size, bs_append, za, he]
      refine (ifinish_ok H5 k5 (by omega)).mono ?_
      rintro _ h9 ⟨rfl, e⟩
      rw [e]; clear e h9
      have hL1 := fin_len (T := T1) q3.hl
      obtain ⟨u1, u2, u3⟩ := run_fin hr1 hrn.1
      rw [← u1]
      have fz5 := cellsOf_new H5 (hc zH) .ex 1
      have f6 := cellsOf_new H5 (hc (finF X1 T1).1) .ex 1
      have n6 : (H5.push (.cells (hc (finF X1 T1).1) .ex 1)).n = H5.n + 1 := rfl
      have k6 : ∀ u ob, H5.m u = some ob → (H5.push (.cells (hc (finF X1 T1).1) .ex 1)).m u = some ob := fun u ob e => by rw [push_m, if_neg (by have := (hc5 u ob e).1; omega)]; exact e
      have q6 := q5.keep (H' := H5.push (.cells (hc (finF X1 T1).1) .ex 1)) fun u ob e _ => k6 u ob e
      simp [z36_eq, hfz, fz5, m_hv, m_hc, hlz, hc_len hL1, hpx _ hL1, set_push]
      generalize H5.push (.cells (hc (finF X1 T1).1) .ex 1) = H6 at *
      refine (ifinish_ok H6 q6 (by omega)).mono ?_
      rintro _ h9 ⟨rfl, e⟩
      rw [e]; clear e h9
      rw [← u2]
      have fz6 := cellsOf_new H6 (hc zH) .ex 1
      have f7 := cellsOf_new H6 (hc (finF X1 T1).1) .ex 1
      have f6' : ∀ o, (H6.push o).cellsOf H5.n = some (hc (finF X1 T1).1, .ex, 1) := fun o => by rw [cellsOf_ne (by omega)]; exact f6
      have hd := hc_dec hL1 hL1
      by_cases hz : e1 = 0
      · have hac1 := u3 hz
        simp [z36_eq, hfz, fz6, m_hv, m_hc, hlz, hc_len hL1, hpx _ hL1, set_push, f6', f7, hac _ hL1, apart, hd, hz, hac1]
      · simp [z36_eq, hfz, fz6, m_hv, m_hc, hlz, hc_len hL1, hpx _ hL1, set_push, f6', f7, hac _ hL1, apart, hd, hz]

end Go.Proofs.YtdmloongeohhhaaGreatDoor.intc
