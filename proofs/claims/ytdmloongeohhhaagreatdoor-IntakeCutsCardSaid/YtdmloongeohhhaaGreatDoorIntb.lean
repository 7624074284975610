/-
  Contracts.
-/
import Derived.Test.YtdmloongeohhhaaGreatDoorInta
import Derived.Test.YtdmloongeohhhaaGreatDoorVerc
import Derived.Test.YtdmloongeohhhaaGreatDoorManf
import Derived.Test.YtdmloongeohhhaaGreatDoorSha
import Derived.Test.YtdmloongeohhhaaGreatDoorLin1
import Derived.Test.YtdmloongeohhhaaGreatDoorVers
import Derived.Test.YtdmloongeohhhaaGreatDoorStr
import Derived.Test.YtdmloongeohhhaaGreatDoorAbEnter
import Derived.Test.YtdmloongeohhhaaGreatDoorAbStep
import Derived.Test.YtdmloongeohhhaaGreatDoorProg
import Derived.IntWalk
import Derived.KernelRfl
set_option linter.unusedSimpArgs false
set_option linter.unusedVariables false
set_option linter.unusedSectionVars false
namespace Go.Proofs.YtdmloongeohhhaaGreatDoor.intb
open Go Go.Ab Go.Proofs Go.RowKit Go.Proofs.YtdmloongeohhhaaGreatDoor.str Go.Proofs.YtdmloongeohhhaaGreatDoor.vers Go.Proofs.YtdmloongeohhhaaGreatDoor.lin1 Go.Proofs.YtdmloongeohhhaaGreatDoor.sha Go.Proofs.YtdmloongeohhhaaGreatDoor.manf Go.Proofs.YtdmloongeohhhaaGreatDoor.verc Go.Proofs.YtdmloongeohhhaaGreatDoor.inta
variable [Inhabited TabBox]
variable [Nonempty GF]
variable [Nonempty GE]
set_option maxRecDepth 100000
attribute [local simp] s_ops s_seq s_cond s_cond_t s_cond_f s_block s_exit s_ret s_skip s_then_n s_then_n' s_then_e s_then_e' s_then_r s_then_r' s_block_n s_block_r s_block_e s_post_r s_post_n s_res0 s_res1 s_res2 s_res3 s_res4 s_nil s_cons s_guard s_guard_tt s_guard_ff s_guard_tf s_guard_ft s_guard_u s_call s_kL s_put s_put0 s_set s_tmp s_const s_func s_glob s_init s_mkF s_mkF0 s_mv s_bin s_pick s_op aop oK_some oK_none bK_some bK_none b_add b_sub b_mul b_quo b_rem b_and b_or b_xor b_andNot b_shl b_shr b_eql b_neq b_lss b_leq b_gtr b_geq b_sadd b_seql b_sneq b_slss b_sleq b_sgtr b_sgeq s_draw s_drawT s_tK s_tT s_tF s_tB s_tR s_stage s_stage0 s_kW s_kR s_rc0 s_rc s_rcg rK_some rK_none rG_b rG_u s_callv s_callv_f s_nextM s_postR_r s_postR_n s_resA0 s_resAt s_resAc s_resC s_tup0 s_tup1 s_tup2 s_tup3
def c26 : AC := .seq (.ops [⟨ some 2, none, .box (.tmp 0) ⟩, ⟨ some 4, none, .mv (.const (.bool false)) ⟩]) (.seq (.draw [([⟨ some 5, none, .fAddr 3 (.tmp 2) ⟩, ⟨ some 6, none, .load none (.tmp 5) ⟩, ⟨ some 7, none, .mv (.tmp 1) ⟩, ⟨ some 8, none, .lenS true (.tmp 7) ⟩, ⟨ some 9, none, .bin .eql (.tmp 6) (.tmp 8) ⟩, ⟨ some 10, none, .mv (.tmp 9) ⟩, ⟨ some 11, some (10, true), .fAddr 4 (.tmp 2) ⟩, ⟨ some 12, some (10, true), .load (some 32) (.tmp 11) ⟩, ⟨ some 13, some (10, true), .mv (.tmp 1) ⟩], [⟨ some 14, some (10, true), .buildS 1 [.string ⟨ ⟨[] ⟩ ⟩] [(0, 1, .tmp 13)] ⟩], [⟨ some 12, some (10, true), .load (some 32) (.tmp 11) ⟩]), ([], [⟨ some 15, some (10, true), .call 72 [.tmp 14] ⟩], [⟨ some 12, some (10, true), .load (some 32) (.tmp 11) ⟩]), ([⟨ some 16, some (10, true), .eqa false (ckl 32) (.tmp 12) (.tmp 15) ⟩, ⟨ some 17, none, .pick (.tmp 10) (.tmp 16) (.const (.bool false)) ⟩, ⟨ some 4, none, .mv (.tmp 17) ⟩], [], [])]) .ret)
theorem k26 : compF Tryz.prog Tryz.f26 = some (c26, [4]) := by kernel_rfl
theorem n26 : Tryz.f26.ntmps = 18 := by kernel_rfl
def c6 : AC := .seq (.ops [⟨ some 3, none, .box (.tmp 0) ⟩, ⟨ some 5, none, .box (.tmp 2) ⟩, ⟨ some 6, none, .mv (.const (.bool false)) ⟩]) (.seq (.seq (.ops [⟨ some 11, none, .call 22 [] ⟩, ⟨ some 12, none, .un .not (.tmp 11) ⟩]) (.cond (.tmp 12) (.seq (.ops [⟨ some 6, none, .mv (.const (.bool false)) ⟩]) .ret) .skip)) (.seq (.seq (.ops [⟨ some 13, none, .mv (.tmp 1) ⟩, ⟨ some 14, none, .lenS true (.tmp 13) ⟩, ⟨ some 15, none, .bin .gtr (.tmp 14) (.const (.int .i64 1000)) ⟩]) (.cond (.tmp 15) (.seq (.ops [⟨ some 6, none, .mv (.const (.bool true)) ⟩]) .ret) .skip)) (.seq (.ops [⟨ some 16, none, .fAddr 0 (.tmp 5) ⟩, ⟨ some 17, none, .load none (.tmp 16) ⟩, ⟨ some 18, none, .fAddr 1 (.tmp 5) ⟩, ⟨ some 19, none, .load (some 3) (.tmp 18) ⟩, ⟨ some 20, none, .call 23 [.tmp 17, .tmp 19] ⟩, ⟨ some 7, none, .mv (.tmp 20) ⟩]) (.seq (.seq (.ops [⟨ some 21, none, .load (some 36) (.tmp 3) ⟩, ⟨ some 22, none, .call 13 [.tmp 21] ⟩, ⟨ some 23, none, .un .not (.tmp 22) ⟩]) (.cond (.tmp 23) (.seq (.ops [⟨ some 24, none, .load (some 36) (.tmp 3) ⟩, ⟨ some 25, none, .call 12 [.tmp 24] ⟩, ⟨ some 26, none, .bin .eql (.tmp 25) (.const (.string ⟨ ⟨[] ⟩ ⟩)) ⟩, ⟨ some 6, none, .mv (.tmp 26) ⟩]) .ret) .skip)) (.seq (.ops [⟨ some 27, none, .mv (.tmp 7) ⟩, ⟨ some 28, none, .load (some 36) (.tmp 3) ⟩, ⟨ some 29, none, .call 12 [.tmp 28] ⟩, ⟨ some 30, none, .buildS 1 [.string ⟨ ⟨[] ⟩ ⟩] [(0, 1, .tmp 29)] ⟩, ⟨ some 31, none, .call 24 [.tmp 27, .tmp 30] ⟩]) (.seq (.ops [⟨ some 32, none, .mv (.tmp 7) ⟩, ⟨ some 33, none, .mv (.tmp 1) ⟩, ⟨ some 34, none, .buildS 1 [.string ⟨ ⟨[] ⟩ ⟩] [(0, 1, .tmp 33)] ⟩, ⟨ some 35, none, .call 24 [.tmp 32, .tmp 34] ⟩]) (.seq (.ops [⟨ some 37, none, .mv (.tmp 7) ⟩, ⟨ some 38, none, .call 25 [.tmp 37] ⟩, ⟨ some 36, none, .mv (.tmp 38) ⟩, ⟨ some 39, none, .extr (.tmp 36) 0 ⟩, ⟨ some 40, none, .extr (.tmp 36) 1 ⟩, ⟨ some 8, none, .alloc z36 ⟩, ⟨ none, none, .store 36 (.tmp 8) (.tmp 39) ⟩, ⟨ some 9, none, .mv (.tmp 40) ⟩]) (.seq (.ops [⟨ some 41, none, .load (some 36) (.tmp 3) ⟩, ⟨ some 42, none, .mv (.tmp 1) ⟩, ⟨ some 43, none, .call 26 [.tmp 41, .tmp 42] ⟩, ⟨ some 44, none, .mv (.tmp 43) ⟩, ⟨ some 45, some (44, true), .fAddr 3 (.tmp 3) ⟩, ⟨ some 46, some (44, true), .load none (.tmp 45) ⟩, ⟨ some 47, some (44, true), .fAddr 0 (.tmp 5) ⟩, ⟨ some 48, some (44, true), .load none (.tmp 47) ⟩, ⟨ some 49, some (44, true), .bin .leq (.tmp 46) (.tmp 48) ⟩, ⟨ some 50, none, .pick (.tmp 44) (.tmp 49) (.const (.bool false)) ⟩, ⟨ some 51, none, .mv (.tmp 50) ⟩, ⟨ some 52, some (51, true), .fAddr 0 (.tmp 3) ⟩, ⟨ some 53, some (51, true), .load (some 3) (.tmp 52) ⟩, ⟨ some 54, some (51, true), .fAddr 1 (.tmp 5) ⟩, ⟨ some 55, some (51, true), .load (some 3) (.tmp 54) ⟩, ⟨ some 56, some (51, true), .call 27 [.tmp 53, .tmp 55] ⟩, ⟨ some 57, some (51, true), .un .not (.tmp 56) ⟩, ⟨ some 58, none, .pick (.tmp 51) (.tmp 57) (.const (.bool false)) ⟩, ⟨ some 10, none, .mv (.tmp 58) ⟩]) (.seq (.ops [⟨ some 59, none, .mv (.tmp 9) ⟩, ⟨ some 60, none, .bin .eql (.tmp 59) (.const (.int .i64 0)) ⟩, ⟨ some 61, none, .mv (.tmp 10) ⟩, ⟨ some 62, none, .eqv false .bool (.tmp 60) (.tmp 61) ⟩, ⟨ some 63, none, .mv (.tmp 62) ⟩, ⟨ some 64, some (63, true), .mv (.tmp 10) ⟩, ⟨ some 65, some (63, true), .un .not (.tmp 64) ⟩, ⟨ some 66, some (63, true), .mv (.tmp 65) ⟩, ⟨ some 67, some (66, false), .load (some 36) (.tmp 8) ⟩, ⟨ some 68, some (66, false), .load (some 36) (.tmp 3) ⟩, ⟨ some 69, some (66, false), .eqa false (ckl 36) (.tmp 67) (.tmp 68) ⟩, ⟨ some 70, some (63, true), .pick (.tmp 66) (.const (.bool true)) (.tmp 69) ⟩, ⟨ some 71, none, .pick (.tmp 63) (.tmp 70) (.const (.bool false)) ⟩, ⟨ some 6, none, .mv (.tmp 71) ⟩]) .ret)))))))))
theorem k6 : compF Tryz.prog Tryz.f6 = some (c6, [6]) := by kernel_rfl
theorem n6 : Tryz.f6.ntmps = 72 := by kernel_rfl
/-! IntakeTakes -/
variable [Nonempty GM]
theorem eq_32 {a b : List UInt8} (ha : a.length = 32) (hb : b.length = 32) : aeqL (ckl 32) (ubs a) (ubs b) = some (decide (a = b)) := by
  have := ubs_eqL a b (by rw [ha, hb])
  rw [ha] at this; exact this
theorem cellsOf_at' {h : Heap} {c : List Value} {m : BMode} {e : Nat} : (h.push (.cells c m e)).cellsOf h.n = some (c, m, e) := cellsOf_new _ _ _ _
theorem matches_ok (x : Hd) (hx : x.hs.length = 32) (img : List UInt8) (hi : img.length ≤ 10000000) (h : Heap) : ACalls Tryz.prog 26 [hv x, .string (bs img)] h fun v h' => v = .bool (decide (x.n = img.length) && decide (x.hs = shaB img)) ∧ h' = h := by
  refine ACalls.same .bool (acalls_of mix Tryz.func26 k26 n26 (by simp) fun hcl hb => ?_)
  have hbsz := bs_size img
  have h3 := hc3 x
  have h32 := hc_cut32 x hx
  have fil : afill [.string (bs [])] [(0, 1, .string (bs img))] = some [.string (bs img)] := rfl
  simp only [c26, s_seq, s_ops]
  by_cases hl : x.n = img.length
  · simp [m_hv, cellsOf_at', apart, h3, hbsz, hl, h32, bs_lit, fil]
    have hb1 : ¬ h.n = h.n + 1 := by omega
    simp [cellsOf_ne, cellsOf_at', hb1, apart, h32]
    refine (sum_ok [img] _ _ (sl_str _ img) (by simp; omega) (by simp)).mono ?_
    rintro _ h9 ⟨rfl, e⟩
    rw [e]
    clear e h9
    have hf : [img].flatten = img := by simp
    rw [hf]
    have heq := eq_32 hx (shaB_len img)
    simp [cellsOf_ne, cellsOf_at', hb1, apart, h32, heq]
    exact ((Heap.Ext.refl h).push hcl _).push hcl _
  · simp [m_hv, cellsOf_at', apart, h3, hbsz, hl]
    exact (Heap.Ext.refl h).push hcl _
theorem takes_plain (x : Hd) (hR : rightH x) (hx : x.hs.length = 32) (room fa fb fc : Int) (s : List UInt8) : ∃ X Y T2 r1 r2, feedF (it0 room fa fb fc) [] (mText x) = ((X, []), r1) ∧ (0 ≤ X.hd.n ∧ X.hd.n ≤ 16777215) ∧ X.text.length ≤ 140 ∧ feedF X [] s = ((Y, T2), r2) ∧ T2.length ≤ s.length ∧
    ((finF Y T2).2 = 0 ↔ (x.n = s.length ∧ x.hs = shaB s) ∧ x.n ≤ room ∧ ¬ vlt ⟨x.a, x.b, x.c⟩ ⟨fa, fb, fc⟩) ∧ ((finF Y T2).2 = 0 → (finF Y T2).1 = x) := by
  have hl := mText_len hx hR
  have hn := hR.2
  have hsp := splF_text x []
  rw [List.append_nil] at hsp
  have hpf := parF_text hR hx
  have hz0 : (0 : Int) ≤ zH.n ∧ zH.n ≤ 16777215 := by simp [zH]
  have key : ∀ e : Int, e ≠ 0 → beginF { it0 room fa fb fc with text := mText x } (mText x) = ({ it0 room fa fb fc with text := mText x }, e) → ¬ (x.n ≤ room ∧ ¬ vlt ⟨x.a, x.b, x.c⟩ ⟨fa, fb, fc⟩) →
      ∃ X Y T2 r1 r2, feedF (it0 room fa fb fc) [] (mText x) = ((X, []), r1) ∧ (0 ≤ X.hd.n ∧ X.hd.n ≤ 16777215) ∧ X.text.length ≤ 140 ∧ feedF X [] s = ((Y, T2), r2) ∧ T2.length ≤ s.length ∧
    ((finF Y T2).2 = 0 ↔ (x.n = s.length ∧ x.hs = shaB s) ∧ x.n ≤ room ∧ ¬ vlt ⟨x.a, x.b, x.c⟩ ⟨fa, fb, fc⟩) ∧ ((finF Y T2).2 = 0 → (finF Y T2).1 = x) := fun e he hb hno => by
    have hF : feedF (it0 room fa fb fc) [] (mText x) = (({ it0 room fa fb fc with text := mText x, e := e }, []), ([], e)) := by
      have hb' : beginF ⟨room, fa, fb, fc, mText x, zH, false, 0⟩ (mText x) = (⟨room, fa, fb, fc, mText x, zH, false, 0⟩, e) := hb
      unfold feedF
      rw [if_neg (by simp [it0]), if_neg (by simp [it0])]
      simp only [it0, List.nil_append, hsp]
      rw [if_neg (by simp), hb', if_pos he]
      rfl
    refine ⟨_, _, _, _, _, hF, hz0, hl, if_pos he, Nat.zero_le _, ?_, ?_⟩
    · have : finF { it0 room fa fb fc with text := mText x, e := e } [] = (zH, e) := if_pos he
      rw [this]
      exact ⟨fun k => absurd k he, fun k => absurd k.2 hno⟩
    · have : finF { it0 room fa fb fc with text := mText x, e := e } [] = (zH, e) := if_pos he
      rw [this]
      exact fun k => absurd k he
  by_cases h1 : room < x.n
  · refine key 12 (by decide) (?_ : beginF ⟨room, fa, fb, fc, mText x, zH, false, 0⟩ (mText x) = (⟨room, fa, fb, fc, mText x, zH, false, 0⟩, 12)) (fun k => by omega)
    unfold beginF
    rw [hpf, if_neg (by simp), if_pos h1]
  by_cases h2 : vlt ⟨x.a, x.b, x.c⟩ ⟨fa, fb, fc⟩
  · refine key 11 (by decide) (?_ : beginF ⟨room, fa, fb, fc, mText x, zH, false, 0⟩ (mText x) = (⟨room, fa, fb, fc, mText x, zH, false, 0⟩, 11)) (fun k => k.2 h2)
    unfold beginF
    rw [hpf, if_neg (by simp), if_neg h1, if_pos h2]
  have hb' : beginF ⟨room, fa, fb, fc, mText x, zH, false, 0⟩ (mText x) = (⟨room, fa, fb, fc, mText x, x, true, 0⟩, 0) := by
    unfold beginF
    rw [hpf, if_neg (by simp), if_neg h1, if_neg h2]
  have hF : feedF (it0 room fa fb fc) [] (mText x) = ((⟨room, fa, fb, fc, mText x, x, true, 0⟩, []), ([], 0)) := by
    unfold feedF
    rw [if_neg (by simp [it0]), if_neg (by simp [it0])]
    simp only [it0, List.nil_append, hsp]
    rw [if_neg (by simp), hb', if_neg (by simp)]
    unfold takeFI
    rw [if_neg (by simp; omega)]
    rfl
  have hgo : (x.n = s.length ∧ x.hs = shaB s) → x.n ≤ room ∧ ¬ vlt ⟨x.a, x.b, x.c⟩ ⟨fa, fb, fc⟩ := fun _ => ⟨by omega, h2⟩
  by_cases h3 : x.n < (s.length : Int)
  · have hF2 : feedF ⟨room, fa, fb, fc, mText x, x, true, 0⟩ [] s = ((⟨room, fa, fb, fc, mText x, x, true, 12⟩, []), ([], 12)) := by
      unfold feedF
      rw [if_neg (by simp), if_pos rfl]
      unfold takeFI
      rw [if_pos (by simp; omega)]
      rfl
    have hf : finF ⟨room, fa, fb, fc, mText x, x, true, 12⟩ [] = (zH, 12) := if_pos (show (12 : Int) ≠ 0 by decide)
    refine ⟨_, _, _, _, _, hF, hn, hl, hF2, Nat.zero_le _, ?_, ?_⟩
    · rw [hf]; exact ⟨fun k => absurd k (by decide), fun k => by have := k.1.1; omega⟩
    · rw [hf]; exact fun k => absurd k (by decide)
  have hF2 : feedF ⟨room, fa, fb, fc, mText x, x, true, 0⟩ [] s = ((⟨room, fa, fb, fc, mText x, x, true, 0⟩, s), (s, 0)) := by
    unfold feedF
    rw [if_neg (by simp), if_pos rfl]
    unfold takeFI
    rw [if_neg (by simp; omega)]
    rfl
  refine ⟨_, _, _, _, _, hF, hn, hl, hF2, Nat.le_refl _, ?_⟩
  by_cases h4 : (s.length : Int) < x.n
  · have hf : finF ⟨room, fa, fb, fc, mText x, x, true, 0⟩ s = (zH, 13) := by unfold finF; rw [if_neg (by simp), if_pos (.inr h4)]
    rw [hf]; exact ⟨⟨fun k => absurd k (by decide), fun k => by have := k.1.1; omega⟩, fun k => absurd k (by decide)⟩
  by_cases h5 : shaB s = x.hs
  · have hf : finF ⟨room, fa, fb, fc, mText x, x, true, 0⟩ s = (x, 0) := by unfold finF; rw [if_neg (by simp), if_neg (by simp; omega), if_neg (by simp [h5])]
    rw [hf]; exact ⟨⟨fun _ => ⟨⟨by omega, h5.symm⟩, by omega, h2⟩, fun _ => rfl⟩, fun _ => rfl⟩
  · have hf : finF ⟨room, fa, fb, fc, mText x, x, true, 0⟩ s = (zH, 7) := by unfold finF; rw [if_neg (by simp), if_neg (by simp; omega), if_pos h5]
    rw [hf]; exact ⟨⟨fun k => absurd k (by decide), fun k => absurd k.1.2.symm h5⟩, fun k => absurd k (by decide)⟩
def lv (room fa fb fc : Int) : List Value := [.int .i64 room, .int .i64 fa, .int .i64 fb, .int .i64 fc]
theorem intakeTakes_law (x : Hd) (hx : x.hs.length = 32) (s : List UInt8) (room fa fb fc : Int) (h : Heap) : ACalls Tryz.prog 6 [hv x, .string (bs s), .agg (lv room fa fb fc).toArray] h fun v _ => v = .bool true ∧ True := by
  refine acalls_of mix Tryz.func6 k6 n6 (by simp) fun hcl hb => ?_
  have hsv : ∀ l, sv l = .string (bs l) := fun _ => rfl
  have hzl : zH.hs.length = 32 := z32_len
  have hlz := hc_len hzl
  have hfz : afill (hc zH) [] = some (hc zH) := rfl
  have hpx : ∀ z : Hd, z.hs.length = 32 → aput (hc zH) 0 (hc z) = hc z := fun z hz => by
    unfold aput
    rw [hc_len hz, List.drop_eq_nil_of_le (by rw [hlz]; omega)]
    simp
  have hac : ∀ x : Hd, x.hs.length = 32 → acut (hc x) 0 36 = some (hc x) := fun x hx => acut_full (hc_len hx)
  have fil1 : ∀ a : List UInt8, afill [.string (bs [])] [(0, 1, .string (bs a))] = some [.string (bs a)] := fun _ => rfl
  have ml : mcells (.agg (lv room fa fb fc).toArray) = some (lv room fa fb fc) := rfl
  have l0 : (lv room fa fb fc)[0]? = some (.int .i64 room) := rfl
  have l1 : acut (lv room fa fb fc) 1 3 = some (iv fa fb fc) := rfl
  have g3 := hc3 x
  have g0 : acut (hc x) 0 3 = some (iv x.a x.b x.c) := hc_cut3 x
  have lbel : ∀ n, ∀ v ∈ lv room fa fb fc, VBelow n v := fun n v hv => by
    simp [lv] at hv
    rcases hv with rfl | rfl | rfl | rfl <;> exact .int
  have f0 : ((h.push (.cells (hc x) .ex 1)).push (.cells (lv room fa fb fc) .ex 1)).cellsOf h.n = some (hc x, .ex, 1) := by rw [cellsOf_ne (by show ¬ h.n = h.n + 1; omega)]; exact cellsOf_new _ _ _ _
  have f1 : ((h.push (.cells (hc x) .ex 1)).push (.cells (lv room fa fb fc) .ex 1)).cellsOf (h.n + 1) = some (lv room fa fb fc, .ex, 1) := cellsOf_new (h.push (.cells (hc x) .ex 1)) _ _ _
  have n0 : ((h.push (.cells (hc x) .ex 1)).push (.cells (lv room fa fb fc) .ex 1)).n = h.n + 2 := rfl
  have c0 : ((h.push (.cells (hc x) .ex 1)).push (.cells (lv room fa fb fc) .ex 1)).Closed := closed_push (closed_push hcl hc_bel) (lbel _)
  simp only [c6, s_seq, s_ops]
  simp [m_hv, ml]
  generalize (h.push (.cells (hc x) .ex 1)).push (.cells (lv room fa fb fc) .ex 1) = H0 at *
  refine (awake20_ok H0).mono ?_
  rintro _ h9 ⟨rfl, e⟩
  rw [e]; clear e h9
  by_cases hs : 1000 < s.length
  · have hs' : (1000 : Int) < (s.length : Int) := by omega
    simp [aun, bs_size, hs']
  have hs' : ¬ (1000 : Int) < (s.length : Int) := by omega
  simp [aun, bs_size, hs', f1, l0, l1, apart]
  refine (inew_ok room fa fb fc H0).mono' ?_
  rintro _ H1 hc1 _ ⟨y, b, rfl, hy, hbb, q1, s1⟩
  have f0a := cellsOf_keep s1.sub f0
  have f1a := cellsOf_keep s1.sub f1
  have hn1 := s1.hi
  simp [f0a, hac x hx, apart]
  refine (hrefRight_ok x H1).mono ?_
  rintro _ h9 ⟨rfl, e⟩
  rw [e]; clear e h9
  by_cases hR : rightH x
  case neg =>
    simp [aun, hR, f0a, hac x hx, apart]
    refine (mTextF_ok x hx H1).mono ?_
    rintro _ h9 ⟨rfl, e⟩
    rw [e]; clear e h9
    rw [if_neg hR]
    simp [hsv, bs_lit, bs_eq_dec]
  obtain ⟨X, Y, T2, r1, r2, p1, p2, p3, p4, p5, p6, p7⟩ := takes_plain x hR hx room fa fb fc s
  have hl140 := mText_len hx hR
  simp [aun, hR, f0a, hac x hx, apart]
  refine (mTextF_ok x hx H1).mono ?_
  rintro _ h9 ⟨rfl, e⟩
  rw [e]; clear e h9
  rw [if_pos hR]
  simp [hsv, fil1, bs_lit]
  have hj2 : SlJ (H1.push (.cells [.string (bs (mText x))] .ex 1)) (.slice (some ⟨H1.n, 0, none⟩) 1 1) [mText x] :=
    ⟨H1.n, 0, 1, _, .ex, 1, rfl, cellsOf_new _ _ _ _, fun _ => rfl, by simp, by simp, fun i hi => by
      match i, hi with
      | 0, _ => rfl⟩
  have k2 : ∀ u ob, H1.m u = some ob → (H1.push (.cells [.string (bs (mText x))] .ex 1)).m u = some ob := fun u ob e => by rw [push_m, if_neg (by have := (hc1 u ob e).1; omega)]; exact e
  have q2 := q1.keep (H' := H1.push (.cells [.string (bs (mText x))] .ex 1)) fun u ob e _ => k2 u ob e
  have n2 : (H1.push (.cells [.string (bs (mText x))] .ex 1)).n = H1.n + 1 := rfl
  generalize H1.push (.cells [.string (bs (mText x))] .ex 1) = H2 at *
  refine (ifeed_ok [mText x] (mText x) _ H2 q2 (by simp [it0, zH]) (by simp) (by simp [it0]) (by simp [joinB]) hj2 (by simp) (by simp) (.inr rfl) (by simp [sumL]; omega) (by omega)).mono' ?_
  rintro _ H3 hc3 _ ⟨rfl, nm3, q3, f3, m3⟩
  rw [p1] at q3 ⊢
  dsimp only at q3 ⊢
  simp [fil1, bs_lit]
  have hnm3 : ∀ u, nm3 = some u → H2.n ≤ u := fun u e => by
    rcases m3 with m3 | ⟨z, m3, m4⟩
    · rw [m3] at e; cases e
    · rw [m3] at e; cases e; exact m4
  have hj4 : SlJ (H3.push (.cells [.string (bs s)] .ex 1)) (.slice (some ⟨H3.n, 0, none⟩) 1 1) [s] :=
    ⟨H3.n, 0, 1, _, .ex, 1, rfl, cellsOf_new _ _ _ _, fun _ => rfl, by simp, by simp, fun i hi => by
      match i, hi with
      | 0, _ => rfl⟩
  have k4 : ∀ u ob, H3.m u = some ob → (H3.push (.cells [.string (bs s)] .ex 1)).m u = some ob := fun u ob e => by rw [push_m, if_neg (by have := (hc3 u ob e).1; omega)]; exact e
  have q4 := q3.keep (H' := H3.push (.cells [.string (bs s)] .ex 1)) fun u ob e _ => k4 u ob e
  have n4 : (H3.push (.cells [.string (bs s)] .ex 1)).n = H3.n + 1 := rfl
  generalize H3.push (.cells [.string (bs s)] .ex 1) = H4 at *
  refine (ifeed_ok [s] s _ H4 q4 p2 (by simp) (by omega) (by simp [joinB]) hj4 (by simp) (by simp) (.inr rfl) (by simp [sumL]; omega) (by omega)).mono' ?_
  rintro _ H5 hc5 _ ⟨rfl, nm5, q5, f5, m5⟩
  rw [p4] at q5 ⊢
  dsimp only at q5 ⊢
  simp
  refine (ifinish_ok H5 q5 (by omega)).mono ?_
  rintro _ h9 ⟨rfl, e⟩
  rw [e]; clear e h9
  have hfl : (finF Y T2).1.hs.length = 32 := by
    have : (finF Y T2).1 = zH ∨ (finF Y T2).1 = Y.hd := by
      unfold finF
      split
      · exact .inl rfl
      · split
        · exact .inl rfl
        · split
          · exact .inl rfl
          · exact .inr rfl
    rcases this with k | k
    · rw [k]; exact hzl
    · rw [k]; exact q5.hl
  generalize finF Y T2 = w at *
  obtain ⟨z, er⟩ := w
  dsimp only at p6 p7 hfl ⊢
  have hE : ∀ u ob, H0.m u = some ob → H5.m u = some ob := fun u ob e => by
    have hu := (c0 u ob e).1
    exact f5.2 u ob (k4 u ob (f3.2 u ob (k2 u ob (s1.sub u ob e)) (by omega) (by omega) (by simp))) (by omega) (by omega) (fun k => by have := hnm3 u k; omega)
  have f0b := cellsOf_keep hE f0
  have f1b := cellsOf_keep hE f1
  have hn5 : H0.n ≤ H5.n := by
    have := f3.1
    have := f5.1
    omega
  have fz5 := cellsOf_new H5 (hc zH) .ex 1
  have f6 := cellsOf_new H5 (hc z) .ex 1
  have f0c : (H5.push (.cells (hc z) .ex 1)).cellsOf h.n = some (hc x, .ex, 1) := by rw [cellsOf_ne (by omega)]; exact f0b
  have f1c : (H5.push (.cells (hc z) .ex 1)).cellsOf (h.n + 1) = some (lv room fa fb fc, .ex, 1) := by rw [cellsOf_ne (by omega)]; exact f1b
  simp [z36_eq, hfz, fz5, m_hv, m_hc, hlz, hc_len hfl, hpx z hfl, set_push]
  generalize H5.push (.cells (hc z) .ex 1) = H6 at *
  simp [f0c, hac x hx, apart]
  refine (matches_ok x hx s (by omega) H6).mono ?_
  rintro _ h9 ⟨rfl, e⟩
  rw [e]; clear e h9
  have hb0 : ∀ t u : Bool, aeq .bool (.bool t) (.bool u) = some (t == u) := fun t u => rfl
  have hdz := hc_dec hfl hx
  by_cases hm : x.n = s.length ∧ x.hs = shaB s
  case neg =>
    have her : ¬ er = 0 := fun k => hm (p6.1 k).1
    have hmb : (decide (x.n = (s.length : Int)) && decide (x.hs = shaB s)) = false := by
      rw [← Bool.not_eq_true, Bool.and_eq_true]
      exact fun k => hm ⟨of_decide_eq_true k.1, of_decide_eq_true k.2⟩
    rw [hmb]
    simp [aun, her, hb0]
  have hmb : (decide (x.n = (s.length : Int)) && decide (x.hs = shaB s)) = true := by
    rw [Bool.and_eq_true]
    exact ⟨decide_eq_true hm.1, decide_eq_true hm.2⟩
  rw [hmb]
  by_cases hr : x.n ≤ room
  case neg =>
    have her : ¬ er = 0 := fun k => hr (p6.1 k).2.1
    simp [aun, her, hb0, f0c, f1c, g3, l0, apart, hr]
  simp [aun, hb0, f0c, f1c, g3, g0, l0, l1, apart, hr]
  refine (less_ok ⟨x.a, x.b, x.c⟩ ⟨fa, fb, fc⟩ H6).mono ?_
  rintro _ h9 ⟨rfl, e⟩
  rw [e]; clear e h9
  by_cases hv : vlt ⟨x.a, x.b, x.c⟩ ⟨fa, fb, fc⟩
  · have her : ¬ er = 0 := fun k => (p6.1 k).2.2 hv
    simp [aun, hv, her, hb0]
  · have her : er = 0 := p6.2 ⟨hm, hr, hv⟩
    have hzx := p7 her
    subst hzx
    simp [aun, hv, her, hb0, f0c, f6, hac z hfl, apart, hdz]

/-! limits come in -/
section
open Go.RowKit Go.ChangeShapes Go.WideShapes
def kLim : List IntKind := [.i64, .i64, .i64, .i64]
theorem flatLim {H : Type} {W : World} {enc : TypeId × Value → H} : FlatK enc Tryz.prog W 56 kLim := by
  have i3 : FlatK enc Tryz.prog W 3 [.i64] := flatK_int Tryz.underlying3 (by kernel_rfl)
  have a101 : FlatK enc Tryz.prog W 23 (List.replicate 3 .i64) := flatK_array (K := [.i64]) Tryz.underlying23 i3 (by kernel_rfl) (fun j hj => match j, hj with
    | 0, _ => rfl)
  refine flatK_struct Tryz.underlying56 (by kernel_rfl) fun j hj => ?_
  have hj4 : j < 4 := by simpa [kLim] using hj
  by_cases h0 : j = 0
  · subst h0
    exact ⟨0, _, _, rfl, Nat.le_refl _, (by show 0 < 0 + 1; omega), i3, rfl⟩
  · refine ⟨1, _, _, rfl, (by show 1 ≤ j; omega), (by show j < 1 + 3; omega), a101, ?_⟩
    match j, hj4, h0 with
    | 1, _, _ => rfl
    | 2, _, _ => rfl
    | 3, _, _ => rfl
theorem lim_of {cs : List Value} (hl : cs.length = kLim.length) (h : ∀ j, j < kLim.length → ∃ n, cs[j]? = some (Value.int (kLim.getD j .i64) n) ∧ (Lit.int (kLim.getD j .i64) n).wf = true) : ∃ a b c d : Int, cs = lv a b c d := by
  match cs, hl with
  | [a, b, c, d], _ =>
    obtain ⟨a', ha, _⟩ := h 0 (by decide)
    obtain ⟨b', hb, _⟩ := h 1 (by decide)
    obtain ⟨c', hc', _⟩ := h 2 (by decide)
    obtain ⟨d', hd, _⟩ := h 3 (by decide)
    simp [kLim] at ha hb hc' hd
    exact ⟨a', b', c', d', by rw [ha, hb, hc', hd]; rfl⟩
theorem lv_ints (a b c d : Int) : ∀ v ∈ lv a b c d, ∃ k n, v = .int k n := fun v hv => by
  simp [lv] at hv
  rcases hv with rfl | rfl | rfl | rfl <;> exact ⟨_, _, rfl⟩
end

end Go.Proofs.YtdmloongeohhhaaGreatDoor.intb
