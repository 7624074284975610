/-
  Contracts.
-/
import Derived.Test.YthhhcpbkedikfaaBudb
import Derived.Test.YthhhcpbkedikfaaBuda
import Derived.Test.YthhhcpbkedikfaaGeo
import Derived.Test.YthhhcpbkedikfaaShar
import Derived.Test.YthhhcpbkedikfaaHead
import Derived.Test.YthhhcpbkedikfaaSha
import Derived.Test.YthhhcpbkedikfaaNum
import Derived.Test.YthhhcpbkedikfaaAbEnter
import Derived.Test.YthhhcpbkedikfaaProg
import Derived.IntWalk
import Derived.KernelRfl
set_option linter.unusedSimpArgs false
set_option linter.unusedVariables false
namespace Go.Proofs.Ythhhcpbkedikfaa.budt
open Go Go.Ab Go.Proofs Go.RowKit Go.Proofs.Ythhhcpbkedikfaa.num Go.Proofs.Ythhhcpbkedikfaa.sha Go.Proofs.Ythhhcpbkedikfaa.head Go.Proofs.Ythhhcpbkedikfaa.shar Go.Proofs.Ythhhcpbkedikfaa.geo Go.Proofs.Ythhhcpbkedikfaa.buda Go.Proofs.Ythhhcpbkedikfaa.budb
set_option maxRecDepth 100000
attribute [local simp] s_ops s_seq s_cond s_cond_t s_cond_f s_block s_exit s_ret s_skip s_then_n s_then_n' s_then_e s_then_e' s_then_r s_then_r' s_block_n s_block_r s_block_e s_post_r s_post_n s_res0 s_res1 s_res2 s_res3 s_res4 s_nil s_cons s_guard s_guard_tt s_guard_ff s_guard_tf s_guard_ft s_guard_u s_call s_kL s_put s_put0 s_set s_tmp s_const s_func s_init s_mkF s_mkF0 s_mv s_bin s_pick s_op aop oK_some oK_none bK_some bK_none b_add b_sub b_mul b_quo b_rem b_and b_or b_xor b_andNot b_shl b_shr b_eql b_neq b_lss b_leq b_gtr b_geq b_sadd b_seql b_sneq b_slss b_sleq b_sgtr b_sgeq s_draw s_drawT s_tK s_tT s_tF s_tB s_tR s_stage s_stage0 s_kW s_kR s_rc0 s_rc s_rcg rK_some rK_none rG_b rG_u s_callv s_callv_f s_nextM s_postR_r s_postR_n s_resA0 s_resAt s_resAc s_resC s_tup0 s_tup1 s_tup2 s_tup3
def c9_0 : AC := .seq (.ops [⟨ some 39, none, .bin .lss (.tmp 38) (.tmp 37) ⟩]) (.seq (.cond (.tmp 39) .skip (.exit 0)) (.seq (.block 1 (.seq (.ops [⟨ some 40, none, .iAddrS 5 (.tmp 36) (.tmp 38) ⟩, ⟨ some 41, none, .load (some 5) (.tmp 40) ⟩, ⟨ some 8, none, .alloc [.int .i64 0, .int .i64 0, .string ⟨ ⟨[] ⟩ ⟩, .int .i64 0, .int .u8 0] ⟩, ⟨ none, none, .store 5 (.tmp 8) (.tmp 41) ⟩]) (.seq (.seq (.draw [([⟨ some 42, none, .mv (.tmp 6) ⟩, ⟨ some 43, none, .mv (.tmp 5) ⟩, ⟨ some 44, none, .lenS false (.tmp 43) ⟩, ⟨ some 45, none, .bin .lss (.tmp 42) (.tmp 44) ⟩, ⟨ some 46, none, .mv (.tmp 45) ⟩, ⟨ some 47, some (46, true), .load (some 5) (.tmp 8) ⟩, ⟨ some 48, some (46, true), .mv (.tmp 5) ⟩, ⟨ some 49, some (46, true), .mv (.tmp 6) ⟩, ⟨ some 50, some (46, true), .iAddrS 5 (.tmp 48) (.tmp 49) ⟩, ⟨ some 51, some (46, true), .load (some 5) (.tmp 50) ⟩, ⟨ some 52, some (46, true), .eqa false [.i, .i, .s, .i, .i] (.tmp 47) (.tmp 51) ⟩, ⟨ some 53, none, .pick (.tmp 46) (.tmp 52) (.const (.bool false)) ⟩], [], [])]) (.cond (.tmp 53) (.seq (.ops [⟨ some 54, none, .mv (.tmp 6) ⟩, ⟨ some 55, none, .bin .add (.tmp 54) (.const (.int .i64 1)) ⟩, ⟨ some 6, none, .mv (.tmp 55) ⟩]) (.exit 1)) .skip)) (.seq (.drawT [⟨ some 56, none, .fAddr 0 (.tmp 8) ⟩, ⟨ some 57, none, .load none (.tmp 56) ⟩, ⟨ some 58, none, .bin .neq (.tmp 57) (.const (.int .i64 15)) ⟩, ⟨ some 59, none, .mv (.tmp 58) ⟩, ⟨ some 60, some (59, false), .load (some 3) (.tmp 2) ⟩, ⟨ some 62, some (59, false), .mv (.tmp 5) ⟩, ⟨ some 63, some (59, false), .mv (.tmp 6) ⟩, ⟨ some 64, some (59, false), .slV 5 (.tmp 62) none (some (.tmp 63)) none ⟩, ⟨ some 66, some (59, false), .load (some 5) (.tmp 8) ⟩] (DT.br ⟨ some 61, some (59, false), .buildS 0 [] [] ⟩ [⟨ some 60, some (59, false), .load (some 3) (.tmp 2) ⟩, ⟨ some 64, some (59, false), .slV 5 (.tmp 62) none (some (.tmp 63)) none ⟩, ⟨ some 66, some (59, false), .load (some 5) (.tmp 8) ⟩] [] (DT.br ⟨ some 65, some (59, false), .app 5 48 74 (.tmp 61) (.tmp 64) ⟩ [⟨ some 60, some (59, false), .load (some 3) (.tmp 2) ⟩, ⟨ some 66, some (59, false), .load (some 5) (.tmp 8) ⟩] [] (DT.br ⟨ some 67, some (59, false), .buildS 1 [.int .i64 0, .int .i64 0, .string ⟨ ⟨[] ⟩ ⟩, .int .i64 0, .int .u8 0] [(0, 5, .tmp 66)] ⟩ [⟨ some 60, some (59, false), .load (some 3) (.tmp 2) ⟩, ⟨ some 64, some (59, false), .slV 5 (.tmp 62) none (some (.tmp 63)) none ⟩] [] (DT.br ⟨ some 68, some (59, false), .app 5 48 74 (.tmp 65) (.tmp 67) ⟩ [⟨ some 60, some (59, false), .load (some 3) (.tmp 2) ⟩] [] (DT.br ⟨ some 69, some (59, false), .call 50 [.tmp 60, .tmp 68] ⟩ [] [⟨ some 70, none, .pick (.tmp 59) (.const (.bool true)) (.tmp 69) ⟩] DT.nil DT.nil) DT.nil) DT.nil) (DT.br ⟨ some 67, some (59, false), .buildS 1 [.int .i64 0, .int .i64 0, .string ⟨ ⟨[] ⟩ ⟩, .int .i64 0, .int .u8 0] [(0, 5, .tmp 66)] ⟩ [⟨ some 60, some (59, false), .load (some 3) (.tmp 2) ⟩, ⟨ some 64, some (59, false), .slV 5 (.tmp 62) none (some (.tmp 63)) none ⟩] [] (DT.br ⟨ some 65, some (59, false), .app 5 48 74 (.tmp 61) (.tmp 64) ⟩ [⟨ some 60, some (59, false), .load (some 3) (.tmp 2) ⟩, ⟨ some 66, some (59, false), .load (some 5) (.tmp 8) ⟩] [] (DT.br ⟨ some 68, some (59, false), .app 5 48 74 (.tmp 65) (.tmp 67) ⟩ [⟨ some 60, some (59, false), .load (some 3) (.tmp 2) ⟩] [] (DT.br ⟨ some 69, some (59, false), .call 50 [.tmp 60, .tmp 68] ⟩ [] [⟨ some 70, none, .pick (.tmp 59) (.const (.bool true)) (.tmp 69) ⟩] DT.nil DT.nil) DT.nil) DT.nil) DT.nil)) (DT.br ⟨ some 67, some (59, false), .buildS 1 [.int .i64 0, .int .i64 0, .string ⟨ ⟨[] ⟩ ⟩, .int .i64 0, .int .u8 0] [(0, 5, .tmp 66)] ⟩ [⟨ some 60, some (59, false), .load (some 3) (.tmp 2) ⟩, ⟨ some 64, some (59, false), .slV 5 (.tmp 62) none (some (.tmp 63)) none ⟩] [] (DT.br ⟨ some 61, some (59, false), .buildS 0 [] [] ⟩ [⟨ some 60, some (59, false), .load (some 3) (.tmp 2) ⟩, ⟨ some 64, some (59, false), .slV 5 (.tmp 62) none (some (.tmp 63)) none ⟩, ⟨ some 66, some (59, false), .load (some 5) (.tmp 8) ⟩] [] (DT.br ⟨ some 65, some (59, false), .app 5 48 74 (.tmp 61) (.tmp 64) ⟩ [⟨ some 60, some (59, false), .load (some 3) (.tmp 2) ⟩, ⟨ some 66, some (59, false), .load (some 5) (.tmp 8) ⟩] [] (DT.br ⟨ some 68, some (59, false), .app 5 48 74 (.tmp 65) (.tmp 67) ⟩ [⟨ some 60, some (59, false), .load (some 3) (.tmp 2) ⟩] [] (DT.br ⟨ some 69, some (59, false), .call 50 [.tmp 60, .tmp 68] ⟩ [] [⟨ some 70, none, .pick (.tmp 59) (.const (.bool true)) (.tmp 69) ⟩] DT.nil DT.nil) DT.nil) DT.nil) DT.nil) DT.nil))) (.cond (.tmp 70) (.seq (.ops [⟨ some 4, none, .mv (.const (.bool false)) ⟩]) .ret) .skip))))) (.ops [⟨ some 71, none, .bin .add (.tmp 38) (.const (.int .i64 1)) ⟩, ⟨ some 38, none, .mv (.tmp 71) ⟩])))
def c9 : AC := .seq (.ops [⟨ some 2, none, .box (.tmp 0) ⟩, ⟨ some 4, none, .mv (.const (.bool false)) ⟩]) (.seq (.seq (.ops [⟨ some 9, none, .call 47 [] ⟩, ⟨ some 10, none, .un .not (.tmp 9) ⟩]) (.cond (.tmp 10) (.seq (.ops [⟨ some 4, none, .mv (.const (.bool false)) ⟩]) .ret) .skip)) (.seq (.seq (.ops [⟨ some 11, none, .mv (.tmp 1) ⟩, ⟨ some 12, none, .call 48 [.tmp 11] ⟩, ⟨ some 13, none, .mv (.tmp 12) ⟩, ⟨ some 14, some (13, false), .load (some 3) (.tmp 2) ⟩, ⟨ some 15, some (13, false), .call 26 [.tmp 14] ⟩, ⟨ some 16, some (13, false), .un .not (.tmp 15) ⟩, ⟨ some 17, none, .pick (.tmp 13) (.const (.bool true)) (.tmp 16) ⟩]) (.cond (.tmp 17) (.seq (.ops [⟨ some 4, none, .mv (.const (.bool true)) ⟩]) .ret) .skip)) (.seq (.ops [⟨ some 18, none, .load (some 3) (.tmp 2) ⟩, ⟨ some 19, none, .mv (.tmp 1) ⟩, ⟨ some 20, none, .call 49 [.tmp 18, .tmp 19] ⟩, ⟨ some 5, none, .mv (.tmp 20) ⟩]) (.seq (.seq (.ops [⟨ some 21, none, .load (some 3) (.tmp 2) ⟩, ⟨ some 22, none, .mv (.tmp 5) ⟩, ⟨ some 23, none, .call 50 [.tmp 21, .tmp 22] ⟩, ⟨ some 24, none, .un .not (.tmp 23) ⟩, ⟨ some 25, none, .mv (.tmp 24) ⟩, ⟨ some 26, some (25, false), .load (some 3) (.tmp 2) ⟩, ⟨ some 27, some (25, false), .mv (.tmp 1) ⟩, ⟨ some 28, some (25, false), .call 50 [.tmp 26, .tmp 27] ⟩, ⟨ some 29, some (25, false), .mv (.tmp 5) ⟩, ⟨ some 30, some (25, false), .lenS false (.tmp 29) ⟩, ⟨ some 31, some (25, false), .mv (.tmp 1) ⟩, ⟨ some 32, some (25, false), .lenS false (.tmp 31) ⟩, ⟨ some 33, some (25, false), .bin .eql (.tmp 30) (.tmp 32) ⟩, ⟨ some 34, some (25, false), .eqv true .bool (.tmp 28) (.tmp 33) ⟩, ⟨ some 35, none, .pick (.tmp 25) (.const (.bool true)) (.tmp 34) ⟩]) (.cond (.tmp 35) (.seq (.ops [⟨ some 4, none, .mv (.const (.bool false)) ⟩]) .ret) .skip)) (.seq (.ops [⟨ some 6, none, .mv (.const (.int .i64 0)) ⟩]) (.seq (.seq (.ops [⟨ some 36, none, .mv (.tmp 1) ⟩, ⟨ some 37, none, .lenS false (.tmp 36) ⟩, ⟨ some 38, none, .mv (.const (.int .i64 0)) ⟩]) (.block 0 (.loop c9_0))) (.seq (.ops [⟨ some 72, none, .mv (.tmp 6) ⟩, ⟨ some 73, none, .mv (.tmp 5) ⟩, ⟨ some 74, none, .lenS false (.tmp 73) ⟩, ⟨ some 75, none, .bin .eql (.tmp 72) (.tmp 74) ⟩, ⟨ some 4, none, .mv (.tmp 75) ⟩]) .ret)))))))
theorem k9 : compF Try.prog Try.f9 = some (c9, [4]) := by kernel_rfl
theorem n9 : Try.f9.ntmps = 76 := by kernel_rfl
theorem trim_state (d p s : Int) : ∀ (r : List Ev) (z : (List Int × Bool) × List Ev), z.1 = addL d p s ([], false) z.2 → (r.foldl (trimE d p s) z).1 = addL d p s ([], false) (r.foldl (trimE d p s) z).2
  | [], z, h => h
  | e :: r, z, h => by
    rw [List.foldl_cons]
    refine trim_state d p s r _ ?_
    unfold trimE
    split
    · show addE d p s z.1 e = addL d p s ([], false) (z.2 ++ [e])
      unfold addL
      rw [List.foldl_append]
      show addE d p s z.1 e = addE d p s (addL d p s ([], false) z.2) e
      rw [h]
    · exact h
theorem trimS_state (d p s : Int) (l : List Ev) : (trimS d p s l).1 = addL d p s ([], false) (trimS d p s l).2 := trim_state d p s l _ rfl
theorem trim_wth (d p s : Int) : ∀ (r : List Ev) (z : (List Int × Bool) × List Ev), wth d p s z.1.1 z.1.2 → wth d p s (r.foldl (trimE d p s) z).1.1 (r.foldl (trimE d p s) z).1.2
  | [], z, h => h
  | e :: r, z, h => by
    rw [List.foldl_cons]
    refine trim_wth d p s r _ ?_
    unfold trimE
    split
    · rename_i h2
      exact h2
    · exact h
theorem wth_nil {d p s : Int} (hr : right d p s = true) : wth d p s [] false := ⟨rfl, fun q => by
  have := right_prop.1 hr
  show ((0 : Nat) : Int) ≤ p / 2
  omega⟩
theorem trimS_wth {d p s : Int} (hr : right d p s = true) (l : List Ev) : wth d p s (trimS d p s l).1.1 (trimS d p s l).1.2 := trim_wth d p s l _ (wth_nil hr)
/-- what comes behind begins with one that may be taken -/
theorem trim_first (d p s : Int) : ∀ (r : List Ev) (z : (List Int × Bool) × List Ev), ∃ x, (r.foldl (trimE d p s) z).2 = z.2 ++ x ∧ ∀ e x', x = e :: x' → wth d p s (addE d p s z.1 e).1 (addE d p s z.1 e).2
  | [], z => ⟨[], by simp, fun e x' h => by cases h⟩
  | e :: r, z => by
    rw [List.foldl_cons]
    obtain ⟨x, h1, h2⟩ := trim_first d p s r (trimE d p s z e)
    by_cases hw : wth d p s (addE d p s z.1 e).1 (addE d p s z.1 e).2
    · have hz : trimE d p s z e = (addE d p s z.1 e, z.2 ++ [e]) := by unfold trimE; rw [if_pos hw]
      refine ⟨e :: x, ?_, fun e' x' h => ?_⟩
      · rw [h1, hz]
        simp
      · cases h
        exact hw
    · have hz : trimE d p s z e = z := by unfold trimE; rw [if_neg hw]
      rw [hz] at h1 h2
      rw [hz]
      exact ⟨x, h1, h2⟩
theorem trimS_split (d p s : Int) (l : List Ev) (i : Nat) : ∃ x, (trimS d p s l).2 = (trimS d p s (l.take i)).2 ++ x ∧ ∀ e x', x = e :: x' → wth d p s (addE d p s (trimS d p s (l.take i)).1 e).1 (addE d p s (trimS d p s (l.take i)).1 e).2 := by
  have : trimS d p s l = (l.drop i).foldl (trimE d p s) (trimS d p s (l.take i)) := by
    unfold trimS
    rw [← List.foldl_append, List.take_append_drop]
  rw [this]
  exact trim_first d p s _ _
theorem wth_mono {d p s : Int} {l m : List Ev} (hs : ∀ e ∈ l, e ∈ m) (h : wth d p s (addL d p s ([], false) m).1 (addL d p s ([], false) m).2) : wth d p s (addL d p s ([], false) l).1 (addL d p s ([], false) l).2 := by
  refine ⟨?_, fun q => ?_⟩
  · cases ho : (addL d p s ([], false) l).2 with
    | false => rfl
    | true =>
      rw [addL_oth] at ho
      rcases ho with ho | ⟨e, x, he, h2⟩
      · cases ho
      · have : (addL d p s ([], false) m).2 = true := addL_oth.2 (.inr ⟨e, x, hs e he, h2⟩)
        rw [h.1] at this
        cases this
  · have := cnt_sub (d := d) (p := p) (s := s) (X := (addL d p s ([], false) l).1) (Y := (addL d p s ([], false) m).1) (addL_nd List.nodup_nil) (fun x hx => by
      rw [addL_mem] at hx ⊢
      rcases hx with hx | ⟨⟨e, he, h2⟩, h3⟩
      · cases hx
      · exact .inr ⟨⟨e, hs e he, h2⟩, h3⟩) q
    have := h.2 q
    omega
theorem trimS_len (d p s : Int) (l : List Ev) (i : Nat) : (trimS d p s (l.take i)).2.length ≤ (l.take i).length := by
  have := trim_len d p s (l.take i) (([], false), [])
  unfold trimS
  simpa using this
/-- what is within is trimmed to itself -/
theorem trim_all {d p s : Int} (hr : right d p s = true) (l : List Ev) : inW d p s l ↔ (trimS d p s l).2.length = l.length := by
  constructor
  · rintro ⟨_, hw⟩
    have key : ∀ i, i ≤ l.length → (trimS d p s (l.take i)).2 = l.take i := by
      intro i
      induction i with
      | zero => intro _; rfl
      | succ i ih =>
        intro hi
        have hil : i < l.length := by omega
        have e0 := ih (by omega)
        have st := trimS_state d p s (l.take i)
        have hacc : wth d p s (addE d p s (trimS d p s (l.take i)).1 l[i]).1 (addE d p s (trimS d p s (l.take i)).1 l[i]).2 := by
          rw [st, e0, ← addL_succ d p s ([], false) l i hil]
          exact wth_mono (fun e he => List.mem_of_mem_take he) hw
        rw [trimS_succ d p s l i hil]
        unfold trimE
        rw [if_pos hacc]
        show (trimS d p s (l.take i)).2 ++ [l[i]] = _
        rw [e0, List.take_succ_eq_append_getElem hil]
    have := key l.length (Nat.le_refl _)
    rw [List.take_of_length_le (Nat.le_refl _)] at this
    rw [this]
  · intro hlen
    have key : ∀ i, i ≤ l.length → (trimS d p s (l.take i)).2.length = i → (trimS d p s (l.take i)).2 = l.take i := by
      intro i
      induction i with
      | zero => intro _ _; rfl
      | succ i ih =>
        intro hi hli
        have hil : i < l.length := by omega
        have hle := trimS_len d p s l i
        rw [List.length_take] at hle
        rw [trimS_succ d p s l i hil] at hli ⊢
        unfold trimE at hli ⊢
        split
        · rename_i hw
          rw [if_pos hw] at hli
          have hli' : (trimS d p s (l.take i)).2.length = i := by simpa using hli
          show (trimS d p s (l.take i)).2 ++ [l[i]] = _
          rw [ih (by omega) hli', List.take_succ_eq_append_getElem hil]
        · rename_i hw
          rw [if_neg hw] at hli
          omega
    have := key l.length (Nat.le_refl _) (by rw [List.take_of_length_le (Nat.le_refl _)]; exact hlen)
    rw [List.take_of_length_le (Nat.le_refl _)] at this
    refine ⟨hr, ?_⟩
    have st := trimS_state d p s l
    have w := trimS_wth hr l
    rw [this] at st
    rw [st] at w
    exact w
deriving instance DecidableEq for Ev
theorem ev_eq (e f : Ev) : aeqL [.i, .i, .s, .i, .i] (ec e) (ec f) = some (decide (e = f)) := by
  obtain ⟨a1, a2, a3, a4, a5⟩ := e
  obtain ⟨b1, b2, b3, b4, b5⟩ := f
  simp [ec, aeqL, aeqC, bs_inj]
/-- an append to a list one appends to, of any number -/
theorem lat_appN {h : Heap} {t esz bytes n k x : Nat} {v : Value} {cells new : List Value} (hc : h.Closed) (l : LAt h esz (some x) v n cells) (hnew : new.length = k * esz) (hb : ∀ x ∈ new, VBelow h.n x) (hsm : (n + k) * (bytes + 1) ≤ 1099511627776) :
    ∃ v2 H2 x2, aapp h t esz bytes (some ⟨x, 0, none⟩) n n new k = some (v2, H2) ∧ LAt H2 esz (some x2) v2 (n + k) (cells ++ new) ∧ (∀ y ob, h.m y = some ob → x ≠ y → H2.m y = some ob) ∧ h.n ≤ H2.n ∧ H2.Closed ∧ (x2 = x ∨ h.n ≤ x2) := by
  by_cases hk : 0 < k
  · obtain ⟨a, q, v2, H2, q1, q2, q3, q4, q5⟩ := lat_app (t := t) (bytes := bytes) hc l hk hnew hb hsm
    have ha : a = some ⟨x, 0, none⟩ := by
      rcases l with ⟨q, _⟩ | ⟨y, md, e, q', h2, _⟩
      · cases q
      · cases q'
        rw [h2] at q
        simp only [Value.slice.injEq] at q
        exact q.1.symm
    rw [ha] at q1
    exact ⟨v2, H2, h.n, q1, q2, fun y ob e hne => q3 y ob e (by simpa using hne), by omega, q5, .inr (Nat.le_refl _)⟩
  · have hk0 : k = 0 := by omega
    subst hk0
    have hn0 : new = [] := List.eq_nil_of_length_eq_zero (by simpa using hnew)
    subst hn0
    have l' := l
    rcases l with ⟨q, _⟩ | ⟨y, md, e, q', h2, h3, h4, h5, h6⟩
    · cases q
    · cases q'
      have hac : acut cells 0 (n * esz) = some cells := acut_full h4
      have hput : aput cells (n * esz) [] = cells := by
        unfold aput
        rw [List.take_of_length_le (by omega), List.drop_of_length_le (by simp; omega)]
        simp
      have hs := set_same (m_of_cells h3)
      refine ⟨v, h, x, ?_, by simpa using l', fun y ob e _ => e, Nat.le_refl _, hc, .inl rfl⟩
      unfold aapp
      simp only [Nat.add_zero] at hsm ⊢
      rw [if_pos ⟨hsm, by simp⟩]
      rw [h3]
      simp only [if_true, hac, Nat.zero_add, Nat.le_refl, hput, hs, h4]
      by_cases hlo : md.isLoose = true
      · simp [hlo, h6 hlo, h5, h2]
      · simp [hlo, h5, h2]
theorem rK_of {d : Option Nat} {f : AF} {Z : Heap} {o : Option (Value × Heap)} {w : Value} (h : o = some (w, Z)) (hf : ∀ d', d = some d' → f d' = w) : rK d f Z o := ⟨w, h, hf⟩
theorem slv_eq {Z : Heap} {nm : Option Nat} {a : Option Addr} {n k : Nat} {cells : List Value} (q : LAt Z 5 nm (.slice a n n) n cells) :
    (match a with
      | none => some (Value.slice none k n, Z)
      | some a => match Z.cellsOf a.block with
        | some (_, md, e) => if a.spot = none ∧ (md.isLoose = true → e = 5) then some (Value.slice (some ⟨a.block, a.off, none⟩) k n, Z) else none
        | none => none) = some (wTake a n k, Z) := by
  rcases q with ⟨_, q, rfl, _⟩ | ⟨x, md, e, _, q, h3, _, _, h6⟩
  · simp only [Value.slice.injEq] at q
    obtain ⟨rfl, _, _⟩ := q
    rfl
  · simp only [Value.slice.injEq] at q
    obtain ⟨rfl, _, _⟩ := q
    simp [h3, wTake]
    exact h6
theorem tk_first {Z : Heap} {nm : Option Nat} {a : Option Addr} {n k : Nat} {T : List Ev} (q : LAt Z 5 nm (.slice a n n) n (T.flatMap ec)) (hn : T.length = n) (hk : k ≤ n) : afirst Z 5 k (wTake a n k) = some ((T.take k).flatMap ec) := by
  have hl : ∀ z : List Ev, (z.flatMap ec).length = z.length * 5 := fun z => by
    induction z with
    | nil => rfl
    | cons a z ih =>
      rw [List.flatMap_cons, List.length_append, ih, List.length_cons]
      show 5 + _ = _
      omega
  rcases q with ⟨_, q, rfl, _⟩ | ⟨x, md, e, _, q, h3, h4, _, h6⟩
  · simp only [Value.slice.injEq] at q
    obtain ⟨rfl, _, _⟩ := q
    obtain rfl : k = 0 := by omega
    simp [wTake, afirst]
  · simp only [Value.slice.injEq] at q
    obtain ⟨rfl, _, _⟩ := q
    subst hn
    have : acut (T.flatMap ec) 0 (k * 5) = some ((T.take k).flatMap ec) := by
      unfold acut
      rw [if_pos (by rw [hl]; omega), List.drop_zero]
      have e1 : T.flatMap ec = (T.take k).flatMap ec ++ (T.drop k).flatMap ec := by rw [← List.flatMap_append, List.take_append_drop]
      rw [e1, List.take_append_of_le_length (by rw [hl, List.length_take]; omega), List.take_of_length_le (by rw [hl, List.length_take]; omega)]
    simp [wTake, afirst, h3, this]
theorem lat_name {h : Heap} {esz n x : Nat} {v : Value} {cells : List Value} (l : LAt h esz (some x) v n cells) : v = .slice (some ⟨x, 0, none⟩) n n := by
  rcases l with ⟨q, _⟩ | ⟨y, md, e, q, h2, _⟩
  · cases q
  · cases q
    exact h2
theorem ecs_len (l : List Ev) : (l.flatMap ec).length = l.length * 5 := by
  induction l with
  | nil => rfl
  | cons a z ih =>
    rw [List.flatMap_cons, List.length_append, ih, List.length_cons]
    show 5 + _ = _
    omega
theorem ecs_bel {n : Nat} (l : List Ev) : ∀ x ∈ l.flatMap ec, VBelow n x := fun x hx => by
  obtain ⟨e, _, hx⟩ := List.mem_flatMap.1 hx
  exact ec_bel e x hx
theorem alen_take (a : Option Addr) (n k : Nat) : alen (wTake a n k) = some k := rfl
theorem wth_skip {d p s : Int} {st : List Int × Bool} {e : Ev} (hk : e.k ≠ 15) (h : wth d p s st.1 st.2) : wth d p s (addE d p s st e).1 (addE d p s st e).2 := by
  unfold addE
  rw [if_neg (fun q => hk q.1)]
  exact h
set_option maxHeartbeats 4000000 in
theorem btrims_law (d p s : Int) (l : List Ev) (v : Value) (h : Heap) (hl0 : SlG ec 5 h v l) (hln : l.length ≤ 9223372036854775807) : ACalls Try.prog 9 [gv d p s, v] h fun v _ => v = .bool true := by
  refine acalls_of mix Try.func9 k9 n9 (by simp) fun hcl hb => ?_
  have hl := slG_ec hl0
  have bl := hl.below hcl
  obtain ⟨ad, c, rfl⟩ := hl.form
  have hf := cellsOf_new h [.int .i64 d, .int .i64 p, .int .i64 s] .ex 1
  have g1 : Gr h (h.push (.cells [.int .i64 d, .int .i64 p, .int .i64 s] .ex 1)) := (Gr.refl hcl).push gv_bel
  have ac : acut [.int .i64 d, .int .i64 p, .int .i64 s] 0 3 = some [.int .i64 d, .int .i64 p, .int .i64 s] := rfl
  simp only [c9, s_seq, s_ops]
  simp [gv, mcells]
  have hl1 := hl.keep g1.m
  have hn1 : (h.push (.cells [.int .i64 d, .int .i64 p, .int .i64 s] .ex 1)).n = h.n + 1 := rfl
  generalize h.push (.cells [.int .i64 d, .int .i64 p, .int .i64 s] .ex 1) = H at *
  refine (bawake_ok _).mono ?_
  rintro _ h9 ⟨rfl, e⟩
  rw [e]
  clear e h9
  simp [aun]
  refine (great_ok l _ _ hl1 hln).mono ?_
  rintro _ h9 ⟨rfl, e⟩
  rw [e]
  clear e h9
  simp
  cases hgr : greatV l with
  | true => simp [hgr]
  | false =>
  have h60 : l.length ≤ 60 := by
    unfold greatV at hgr
    rw [Bool.or_eq_false_iff] at hgr
    simpa using hgr.1
  simp [hgr, hf, apart, ac]
  have rr := refRight_ok d p s H
  unfold gv at rr
  refine rr.mono ?_
  rintro _ h9 ⟨rfl, e⟩
  rw [e]
  clear e h9 rr
  cases hr : right d p s with
  | false => simp [aun]
  | true =>
  simp [aun, hf, apart, ac]
  have bt := btrim_ok d p s hr l _ H hl1 (by omega)
  unfold gv at bt
  refine bt.mono ?_
  rintro r H2 ⟨⟨nm, hT⟩, g2⟩
  have hTl := trimS_len d p s l l.length
  have hst := trimS_state d p s l
  have hwt := trimS_wth hr l
  have hall := trim_all hr l
  have hsplit := trimS_split d p s l
  have hfirst : ∀ i, (trimS d p s (l.take i)).1 = addL d p s ([], false) (trimS d p s (l.take i)).2 := fun i => trimS_state d p s (l.take i)
  have hfin : trimS d p s (l.take l.length) = trimS d p s l := by rw [List.take_of_length_le (Nat.le_refl _)]
  rw [hfin, List.take_of_length_le (Nat.le_refl _)] at hTl
  generalize hTT : (trimS d p s l).2 = T at *
  obtain ⟨a, rfl⟩ := hT.form
  have hf2 := cellsOf_keep g2.m hf
  have hl2 := hl1.keep g2.m
  have hTs := lat_sl5 hT rfl
  have g12 : Gr h H2 := ⟨Nat.le_trans g1.n g2.n, g2.cl, fun y ob e => g2.m y ob (g1.m y ob e)⟩
  simp [hf2, apart, ac]
  have bi := bin_ok d p s T _ H2 hTs (by omega)
  unfold gv at bi
  refine bi.mono ?_
  rintro v h9 ⟨t, e⟩
  have hin : inW d p s T := ⟨hr, by rw [← hst]; exact hwt⟩
  obtain ⟨t1, rfl, ht1⟩ := t
  obtain rfl := ht1.2 hin
  rw [e]
  clear e h9 bi ht1
  simp [aun, hf2, apart, ac]
  have bi := bin_ok d p s l _ H2 hl2 (by omega)
  unfold gv at bi
  refine bi.mono ?_
  rintro v h9 ⟨t, e⟩
  obtain ⟨t2, rfl, ht2⟩ := t
  have ht2' : t2 = decide ((T.length : Int) = (l.length : Int)) := by
    rw [Bool.eq_iff_iff, ht2, hall, decide_eq_true_iff]
    omega
  subst ht2'
  rw [e]
  clear e h9 bi ht2
  simp [aeq]
  have hH2 : h.n ≤ H2.n := g12.n
  have hf2n := cellsOf_lt g2.cl hf2
  have bT := hT.below g2.cl
  have bl2 := bl.mono g12.n
  refine awp_loop_of (α := ZI) (fun z => z.i ≤ l.length ∧ Gr H2 z.H)
    (fun z => [(2, .pointer (some ⟨h.n, 0, none⟩)), (5, .slice a T.length T.length), (6, .int .i64 (trimS d p s (l.take z.i)).2.length), (36, .slice ad l.length c), (37, .int .i64 l.length), (38, .int .i64 z.i)]) (fun z => z.H) (fun z => l.length - z.i) ⟨0, H2⟩
    ⟨Nat.zero_le _, Gr.refl g2.cl⟩ ⟨hH2, Nat.le_refl _, fun _ _ e => e, g2.cl⟩ (by simp; exact ⟨.ptr hf2n, bT, ⟨rfl, .int⟩, bl2, .int, .int⟩) ?_
  rintro ⟨i, HH⟩ ⟨hi, g⟩
  dsimp only at hi g ⊢
  have e1 : IntKind.i64.wrap ((i : Int) + 1) = ((i + 1 : Nat) : Int) := by rw [IntWalk.i64_in _ (by omega)]; omega
  have gn := g.n
  by_cases hil : i < l.length
  · have hi' : (i : Int) < (l.length : Int) := by omega
    obtain ⟨bb, o1, cs1, m1, ee1, rfl, gg1, gg2⟩ := (hl2.keep g.m).at hil
    have hsucc := trimS_succ d p s l i hil
    obtain ⟨x, hx1, hx2⟩ := hsplit i
    obtain ⟨y, hy1, hy2⟩ := hsplit (i + 1)
    have hfi := hfirst i
    have hwi := trimS_wth hr (l.take i)
    generalize hTi : trimS d p s (l.take i) = Ti at *
    generalize hev : l[i] = e at *
    have hKle : Ti.2.length ≤ T.length := by rw [hx1, List.length_append]; omega
    have hz5 : aput [.int .i64 0, .int .i64 0, .string (bs []), .int .i64 0, .int .u8 0] 0 (ec e) = ec e := rfl
    have hm5 : mcells (.agg (ec e).toArray) = some (ec e) := by simp [mcells]
    have hle5 : (ec e).length = 5 := rfl
    have gp : Gr HH (HH.push (.cells (ec e) .ex 1)) := (Gr.refl g.cl).push (ec_bel _)
    have hYp := cellsOf_new HH (ec e) .ex 1
    simp only [c9_0]
    simp [hi', aidx_of hil, gg1, gg2, apart, bs_lit, cellsOf_at, hm5, hz5, hle5, set_at]
    have hnp : (HH.push (.cells (ec e) .ex 1)).n = HH.n + 1 := rfl
    generalize HH.push (.cells (ec e) .ex 1) = Z at *
    have gz : Gr H2 Z := ⟨Nat.le_trans g.n gp.n, gp.cl, fun y ob e => gp.m y ob (g.m y ob e)⟩
    have hTz : LAt Z 5 nm (.slice a T.length T.length) T.length (T.flatMap ec) := hT.keep fun y e => by
      subst e
      obtain ⟨ob, hob⟩ : ∃ ob, H2.m y = some ob := by
        rcases hT with ⟨q, _⟩ | ⟨y', md, e, q, _, h3, _⟩
        · cases q
        · cases q; exact ⟨_, m_of_cells h3⟩
      rw [hob, gz.m y ob hob]
    have hTsz := lat_sl5 hTz rfl
    have hfz := cellsOf_keep gz.m hf2
    have ca5 : acut (ec e) 0 5 = some (ec e) := rfl
    have gzn := gz.n
    by_cases hw : wth d p s (addE d p s Ti.1 e).1 (addE d p s Ti.1 e).2
    · have hT' : trimS d p s (l.take (i + 1)) = (addE d p s Ti.1 e, Ti.2 ++ [e]) := by
        rw [hsucc]
        unfold trimE
        rw [if_pos hw]
      rw [hT'] at hy1
      have hKlt : Ti.2.length < T.length := by rw [hy1]; simp
      have hKe : T[Ti.2.length] = e := by
        have : T[Ti.2.length]? = some e := by rw [hy1]; simp
        rw [List.getElem?_eq_getElem hKlt] at this
        exact Option.some.inj this
      obtain ⟨bT', oT, csT, mT, eT, rfl, tt1, tt2⟩ := hTsz.at hKlt
      rw [hKe] at tt2
      have hKi : (Ti.2.length : Int) < (T.length : Int) := by omega
      have heq := ev_eq e e
      have ek : IntKind.i64.wrap ((Ti.2.length : Int) + 1) = ((Ti.2.length + 1 : Nat) : Int) := by rw [IntWalk.i64_in _ (by omega)]; omega
      simp [hKlt, hYp, apart, ca5, aidx_of hKlt, tt1, tt2, heq, ek, e1, -Int.natCast_add]
      have hlen1 : (trimS d p s (l.take (i + 1))).2.length = Ti.2.length + 1 := by rw [hT']; simp
      exact ⟨⟨i + 1, Z⟩, by show l.length - (i + 1) < l.length - i; omega, ⟨by show i + 1 ≤ l.length; omega, gz⟩, ⟨by show h.n ≤ Z.n; omega, Nat.le_refl _, fun _ _ e => e, gz.cl⟩, .ptr (Nat.lt_of_lt_of_le hf2n gz.n), hTz.below gz.cl, ⟨by rw [hlen1], .int⟩, bl2.mono gz.n, .int, rfl, .int⟩
    · have hT' : trimS d p s (l.take (i + 1)) = Ti := by
        rw [hsucc]
        unfold trimE
        rw [if_neg hw]
      have hk15 : e.k = 15 := by
        by_cases hk : e.k = 15
        · exact hk
        · exact absurd (wth_skip hk hwi) hw
      have hne : ∀ hK : Ti.2.length < T.length, T[Ti.2.length] ≠ e := fun hK q => by
        have hTe : T[Ti.2.length]? = some e := by rw [List.getElem?_eq_getElem hK, q]
        rw [hx1, List.getElem?_append_right (Nat.le_refl _), Nat.sub_self] at hTe
        cases x with
        | nil => cases hTe
        | cons e' x' =>
          have : e' = e := by simpa using hTe
          subst this
          exact hw (hx2 _ _ rfl)
      have gk0 : (ec e)[0] = .int .i64 e.k := rfl
      have gk1 : (ec e)[0]? = some (.int .i64 e.k) := rfl
      have fil0 : afill [] [] = some ([] : List Value) := rfl
      have b1 : afill [.int .i64 0, .int .i64 0, .string (bs []), .int .i64 0, .int .u8 0] [(0, 5, .agg (ec e).toArray)] = some (ec e) := by simp [afill, hm5, hle5, hz5]
      have hTk : T.take Ti.2.length = Ti.2 := by rw [hx1]; simp
      have kp0 : ∀ y ob, Z.m y = some ob → Z.m y = some ob := fun y ob e => e
      have n0_ : Z.n ≤ Z.n := Nat.le_refl _
      have bTz := hTz.below gz.cl
      have fin : ∀ Zd : Heap, (∀ y ob, Z.m y = some ob → Zd.m y = some ob) → Z.n ≤ Zd.n → Zd.Closed → ∃ y : ZI, l.length - y.i < l.length - i ∧ (y.i ≤ l.length ∧ Gr H2 y.H) ∧ Heap.Sub h.n y.H Zd ∧ VBelow y.H.n (.pointer (some ⟨h.n, 0, none⟩)) ∧ VBelow y.H.n (.slice a T.length T.length) ∧
          ((Ti.2.length : Int) = ((trimS d p s (l.take y.i)).2.length : Int) ∧ VBelow y.H.n (.int .i64 ((trimS d p s (l.take y.i)).2.length : Nat))) ∧ VBelow y.H.n (.slice (some ⟨bb, o1, none⟩) l.length c) ∧ VBelow y.H.n (.int .i64 l.length) ∧ ((i + 1 : Nat) : Int) = (y.i : Int) ∧ VBelow y.H.n (.int .i64 y.i) := fun Zd k1 k2 k3 =>
        ⟨⟨i + 1, Zd⟩, by show l.length - (i + 1) < l.length - i; omega, ⟨by show i + 1 ≤ l.length; omega, ⟨Nat.le_trans gz.n k2, k3, fun y ob e => k1 y ob (gz.m y ob e)⟩⟩, ⟨by show h.n ≤ Zd.n; omega, Nat.le_refl _, fun _ _ e => e, k3⟩, .ptr (Nat.lt_of_lt_of_le hf2n (Nat.le_trans gz.n k2)), bTz.mono k2, ⟨by show (Ti.2.length : Int) = ((trimS d p s (l.take (i + 1))).2.length : Int); rw [hT'], .int⟩, bl2.mono (Nat.le_trans gz.n k2), .int, rfl, .int⟩
      have nin : ∀ (Zd : Heap) (v3 : Value) (x3 : Nat), LAt Zd 5 (some x3) v3 (Ti.2.length + 1) (Ti.2.flatMap ec ++ ec e) → ACalls Try.prog 50 [.agg #[.int .i64 d, .int .i64 p, .int .i64 s], v3] Zd fun r h' => r = .bool false ∧ h' = Zd := fun Zd v3 x3 q => by
        have hq : (Ti.2 ++ [e]).flatMap ec = Ti.2.flatMap ec ++ ec e := by rw [List.flatMap_append]; simp
        rw [← hq] at q
        have bi := bin_ok d p s (Ti.2 ++ [e]) v3 Zd (lat_sl5 q (by simp)) (by simp; omega)
        unfold gv at bi
        refine bi.mono ?_
        rintro r h' ⟨t, eh⟩
        refine ⟨?_, eh⟩
        obtain ⟨tb, rfl, htb⟩ := t
        have hnin : ¬ inW d p s (Ti.2 ++ [e]) := fun q => by
          have q2 := q.2
          have hh : addL d p s ([], false) (Ti.2 ++ [e]) = addE d p s Ti.1 e := by
            unfold addL
            rw [List.foldl_append, hfi]
            rfl
          rw [hh] at q2
          exact hw q2
        cases tb with
        | false => rfl
        | true => exact absurd (htb.1 rfl) hnin
      have hcut : acut (T.flatMap ec) 0 (Ti.2.length * 5) = some (Ti.2.flatMap ec) := by
        unfold acut
        rw [if_pos (by rw [ecs_len]; omega), List.drop_zero, hx1, List.flatMap_append, List.take_append_of_le_length (by rw [ecs_len]; omega), List.take_of_length_le (by rw [ecs_len]; omega)]
      rcases hTz with ⟨z1, z2, z3, z4⟩ | ⟨x', md, e', z1, z2, h3, h4, h5, h6⟩
      · have hT0 : T = [] := List.eq_nil_of_length_eq_zero z3
        have hTi0 : Ti.2 = [] := List.eq_nil_of_length_eq_zero (by omega)
        have hKz : Ti.2.length = 0 := by rw [hTi0]; rfl
        have hfz0 : Ti.2.flatMap ec = [] := by rw [hTi0]; rfl
        simp only [Value.slice.injEq] at z2
        obtain ⟨rfl, -, -⟩ := z2
        have hK : ¬ Ti.2.length < T.length := by omega
        simp [hK]
        simp [gk1, hk15, hfz, apart, ac, ab_take (len := T.length) hKle, hYp, ca5, fil0]
        refine ⟨?_, ?_⟩
        · have m1 := LAt.made Z 5
          have g1_ : Gr Z (Z.push (.cells [] .ex 1)) := (Gr.refl gz.cl).push (fun x hx => by cases hx)
          have X1 : Z.n ≤ Z.n := n0_
          have nn1 : (Z.push (.cells [] .ex 1)).n = Z.n + 1 := rfl
          have kp1 : ∀ y ob, Z.m y = some ob → (Z.push (.cells [] .ex 1)).m y = some ob := fun y ob e => g1_.m y ob (kp0 y ob e)
          generalize Z.push (.cells [] .ex 1) = Z1 at *
          have N1 : Z.n ≤ Z1.n := by omega
          have fa1 := cellsOf_keep kp1 hfz
          have fb1 := cellsOf_keep kp1 hYp
          simp [fa1, fb1, apart, ac, ca5, ab_take (len := T.length) hKle]
          refine ⟨?_, ?_⟩
          · have hK2 : afirst Z1 5 Ti.2.length (.slice none Ti.2.length T.length) = some (Ti.2.flatMap ec) := by simp [afirst, hKz, hfz0]
            obtain ⟨w2, Z2, y2, ap2, l2, k2_, p2, c2, _⟩ := lat_appN (t := 74) (bytes := 48) (k := Ti.2.length) (new := Ti.2.flatMap ec) g1_.cl m1 (ecs_len _) (ecs_bel _) (by omega)
            simp only [List.nil_append, Nat.zero_add] at l2
            obtain rfl := lat_name l2
            have kp2 : ∀ y ob, Z.m y = some ob → Z2.m y = some ob := fun y ob e => k2_ y ob (kp1 y ob e) (by have := (gz.cl y ob e).1; omega)
            have aq2 := ap2
            try rw [nn1] at aq2
            have N2 : Z.n ≤ Z2.n := by omega
            have fa2 := cellsOf_keep kp2 hfz
            have fb2 := cellsOf_keep kp2 hYp
            simp [alen, hK2, ap2, aq2, fa2, fb2, apart, ac, ca5, ab_take (len := T.length) hKle]
            simp [b1, bs_lit]
            have g3_ : Gr Z2 (Z2.push (.cells (ec e) .ex 1)) := (Gr.refl c2).push (ec_bel _)
            have hE3 := cellsOf_new Z2 (ec e) .ex 1
            have nn3 : (Z2.push (.cells (ec e) .ex 1)).n = Z2.n + 1 := rfl
            have l3 := LAt.keep (h' := Z2.push (.cells (ec e) .ex 1)) l2 fun y e => by
              cases e
              have := l2.lt c2
              rw [push_m, if_neg (by omega)]
            have kp3 : ∀ y ob, Z.m y = some ob → (Z2.push (.cells (ec e) .ex 1)).m y = some ob := fun y ob e => g3_.m y ob (kp2 y ob e)
            generalize Z2.push (.cells (ec e) .ex 1) = Z3 at *
            have N3 : Z.n ≤ Z3.n := by omega
            have fa3 := cellsOf_keep kp3 hfz
            have fb3 := cellsOf_keep kp3 hYp
            simp [b1, bs_lit, fa3, fb3, apart, ac, ca5, ab_take (len := T.length) hKle]
            have hq4 : afirst Z3 5 1 (.slice (some ⟨Z2.n, 0, none⟩) 1 1) = some (ec e) := by simp [afirst, hE3, ca5]
            obtain ⟨w4, Z4, y4, ap4, l4, k4_, p4, c4, _⟩ := lat_appN (t := 74) (bytes := 48) (k := 1) (new := ec e) g3_.cl l3 rfl (ec_bel _) (by omega)
            have kp4 : ∀ y ob, Z.m y = some ob → Z4.m y = some ob := fun y ob e => k4_ y ob (kp3 y ob e) (by have := (gz.cl y ob e).1; omega)
            have aq4 := ap4
            try rw [nn1] at aq4
            have hr4 := hq4
            try rw [nn1] at hr4
            have N4 : Z.n ≤ Z4.n := by omega
            have fa4 := cellsOf_keep kp4 hfz
            have fb4 := cellsOf_keep kp4 hYp
            simp [alen, hq4, hr4, ap4, aq4, fa4, fb4, apart, ac, ca5, ab_take (len := T.length) hKle]
            refine (nin _ _ _ l4).mono ?_
            rintro _ h9 ⟨rfl, e⟩
            rw [e]
            clear e h9
            simp [e1, -Int.natCast_add]
            exact fin _ kp4 N4 c4
          · simp [b1, bs_lit]
            have g2_ : Gr Z1 (Z1.push (.cells (ec e) .ex 1)) := (Gr.refl g1_.cl).push (ec_bel _)
            have hE2 := cellsOf_new Z1 (ec e) .ex 1
            have nn2 : (Z1.push (.cells (ec e) .ex 1)).n = Z1.n + 1 := rfl
            have l2 := LAt.keep (h' := Z1.push (.cells (ec e) .ex 1)) m1 fun y e => by
              cases e
              have := m1.lt g1_.cl
              rw [push_m, if_neg (by omega)]
            have kp2 : ∀ y ob, Z.m y = some ob → (Z1.push (.cells (ec e) .ex 1)).m y = some ob := fun y ob e => g2_.m y ob (kp1 y ob e)
            generalize Z1.push (.cells (ec e) .ex 1) = Z2 at *
            have N2 : Z.n ≤ Z2.n := by omega
            have fa2 := cellsOf_keep kp2 hfz
            have fb2 := cellsOf_keep kp2 hYp
            simp [b1, bs_lit, fa2, fb2, apart, ac, ca5, ab_take (len := T.length) hKle]
            have hK3 : afirst Z2 5 Ti.2.length (.slice none Ti.2.length T.length) = some (Ti.2.flatMap ec) := by simp [afirst, hKz, hfz0]
            obtain ⟨w3, Z3, y3, ap3, l3, k3_, p3, c3, _⟩ := lat_appN (t := 74) (bytes := 48) (k := Ti.2.length) (new := Ti.2.flatMap ec) g2_.cl l2 (ecs_len _) (ecs_bel _) (by omega)
            simp only [List.nil_append, Nat.zero_add] at l3
            obtain rfl := lat_name l3
            have kp3 : ∀ y ob, Z.m y = some ob → Z3.m y = some ob := fun y ob e => k3_ y ob (kp2 y ob e) (by have := (gz.cl y ob e).1; omega)
            have hE3 : Z3.cellsOf Z1.n = some (ec e, .ex, 1) := by
              have := k3_ Z1.n _ (m_of_cells hE2) (by omega)
              unfold Heap.cellsOf
              rw [this]
            have aq3 := ap3
            try rw [nn1] at aq3
            have N3 : Z.n ≤ Z3.n := by omega
            have fa3 := cellsOf_keep kp3 hfz
            have fb3 := cellsOf_keep kp3 hYp
            simp [alen, hK3, ap3, aq3, fa3, fb3, apart, ac, ca5, ab_take (len := T.length) hKle]
            have hq4 : afirst Z3 5 1 (.slice (some ⟨Z1.n, 0, none⟩) 1 1) = some (ec e) := by simp [afirst, hE3, ca5]
            obtain ⟨w4, Z4, y4, ap4, l4, k4_, p4, c4, _⟩ := lat_appN (t := 74) (bytes := 48) (k := 1) (new := ec e) c3 l3 rfl (ec_bel _) (by omega)
            have kp4 : ∀ y ob, Z.m y = some ob → Z4.m y = some ob := fun y ob e => k4_ y ob (kp3 y ob e) (by have := (gz.cl y ob e).1; omega)
            have aq4 := ap4
            try rw [nn1] at aq4
            have hr4 := hq4
            try rw [nn1] at hr4
            have N4 : Z.n ≤ Z4.n := by omega
            have fa4 := cellsOf_keep kp4 hfz
            have fb4 := cellsOf_keep kp4 hYp
            simp [alen, hq4, hr4, ap4, aq4, fa4, fb4, apart, ac, ca5, ab_take (len := T.length) hKle]
            refine (nin _ _ _ l4).mono ?_
            rintro _ h9 ⟨rfl, e⟩
            rw [e]
            clear e h9
            simp [e1, -Int.natCast_add]
            exact fin _ kp4 N4 c4
        · simp [b1, bs_lit]
          have g1_ : Gr Z (Z.push (.cells (ec e) .ex 1)) := (Gr.refl gz.cl).push (ec_bel _)
          have hE1 := cellsOf_new Z (ec e) .ex 1
          have nn1 : (Z.push (.cells (ec e) .ex 1)).n = Z.n + 1 := rfl
          have kp1 : ∀ y ob, Z.m y = some ob → (Z.push (.cells (ec e) .ex 1)).m y = some ob := fun y ob e => g1_.m y ob (kp0 y ob e)
          generalize Z.push (.cells (ec e) .ex 1) = Z1 at *
          have N1 : Z.n ≤ Z1.n := by omega
          have fa1 := cellsOf_keep kp1 hfz
          have fb1 := cellsOf_keep kp1 hYp
          simp [b1, bs_lit, fa1, fb1, apart, ac, ca5, ab_take (len := T.length) hKle]
          simp [fil0]
          have m2 := LAt.made Z1 5
          have g2_ : Gr Z1 (Z1.push (.cells [] .ex 1)) := (Gr.refl g1_.cl).push (fun x hx => by cases hx)
          have X2 : Z.n ≤ Z1.n := N1
          have nn2 : (Z1.push (.cells [] .ex 1)).n = Z1.n + 1 := rfl
          have hE2 := cellsOf_keep g2_.m hE1
          have kp2 : ∀ y ob, Z.m y = some ob → (Z1.push (.cells [] .ex 1)).m y = some ob := fun y ob e => g2_.m y ob (kp1 y ob e)
          generalize Z1.push (.cells [] .ex 1) = Z2 at *
          have N2 : Z.n ≤ Z2.n := by omega
          have fa2 := cellsOf_keep kp2 hfz
          have fb2 := cellsOf_keep kp2 hYp
          simp [fa2, fb2, apart, ac, ca5, ab_take (len := T.length) hKle]
          have hK3 : afirst Z2 5 Ti.2.length (.slice none Ti.2.length T.length) = some (Ti.2.flatMap ec) := by simp [afirst, hKz, hfz0]
          obtain ⟨w3, Z3, y3, ap3, l3, k3_, p3, c3, _⟩ := lat_appN (t := 74) (bytes := 48) (k := Ti.2.length) (new := Ti.2.flatMap ec) g2_.cl m2 (ecs_len _) (ecs_bel _) (by omega)
          simp only [List.nil_append, Nat.zero_add] at l3
          obtain rfl := lat_name l3
          have kp3 : ∀ y ob, Z.m y = some ob → Z3.m y = some ob := fun y ob e => k3_ y ob (kp2 y ob e) (by have := (gz.cl y ob e).1; omega)
          have hE3 : Z3.cellsOf Z.n = some (ec e, .ex, 1) := by
            have := k3_ Z.n _ (m_of_cells hE2) (by omega)
            unfold Heap.cellsOf
            rw [this]
          have aq3 := ap3
          try rw [nn1] at aq3
          have N3 : Z.n ≤ Z3.n := by omega
          have fa3 := cellsOf_keep kp3 hfz
          have fb3 := cellsOf_keep kp3 hYp
          simp [alen, hK3, ap3, aq3, fa3, fb3, apart, ac, ca5, ab_take (len := T.length) hKle]
          have hq4 : afirst Z3 5 1 (.slice (some ⟨Z.n, 0, none⟩) 1 1) = some (ec e) := by simp [afirst, hE3, ca5]
          obtain ⟨w4, Z4, y4, ap4, l4, k4_, p4, c4, _⟩ := lat_appN (t := 74) (bytes := 48) (k := 1) (new := ec e) c3 l3 rfl (ec_bel _) (by omega)
          have kp4 : ∀ y ob, Z.m y = some ob → Z4.m y = some ob := fun y ob e => k4_ y ob (kp3 y ob e) (by have := (gz.cl y ob e).1; omega)
          have aq4 := ap4
          try rw [nn1] at aq4
          have hr4 := hq4
          try rw [nn1] at hr4
          have N4 : Z.n ≤ Z4.n := by omega
          have fa4 := cellsOf_keep kp4 hfz
          have fb4 := cellsOf_keep kp4 hYp
          simp [alen, hq4, hr4, ap4, aq4, fa4, fb4, apart, ac, ca5, ab_take (len := T.length) hKle]
          refine (nin _ _ _ l4).mono ?_
          rintro _ h9 ⟨rfl, e⟩
          rw [e]
          clear e h9
          simp [e1, -Int.natCast_add]
          exact fin _ kp4 N4 c4
      · simp only [Value.slice.injEq] at z2
        obtain ⟨rfl, -, -⟩ := z2
        have h6' : (md.isLoose = true → e' = 5) = True := eq_true h6
        by_cases hK : Ti.2.length < T.length
        · have hne' := hne hK
          have heq := ev_eq e T[Ti.2.length]
          have hdec : decide (e = T[Ti.2.length]) = false := decide_eq_false (fun q => hne' q.symm)
          rw [hdec] at heq
          have tt2 := cut5 T Ti.2.length hK
          simp only [Nat.zero_add] at tt2
          simp [hK, hYp, apart, ca5, aidx_of hK, h3, tt2, heq]
          simp [gk1, hk15, hfz, apart, ac, ab_take (len := T.length) hKle, h3, h6', hYp, ca5, fil0]
          refine ⟨?_, ?_⟩
          · have m1 := LAt.made Z 5
            have g1_ : Gr Z (Z.push (.cells [] .ex 1)) := (Gr.refl gz.cl).push (fun x hx => by cases hx)
            have X1 : Z.n ≤ Z.n := n0_
            have nn1 : (Z.push (.cells [] .ex 1)).n = Z.n + 1 := rfl
            have kp1 : ∀ y ob, Z.m y = some ob → (Z.push (.cells [] .ex 1)).m y = some ob := fun y ob e => g1_.m y ob (kp0 y ob e)
            generalize Z.push (.cells [] .ex 1) = Z1 at *
            have N1 : Z.n ≤ Z1.n := by omega
            have fa1 := cellsOf_keep kp1 hfz
            have fb1 := cellsOf_keep kp1 hYp
            have fc1 := cellsOf_keep kp1 h3
            simp [fa1, fb1, fc1, apart, ac, ca5, ab_take (len := T.length) hKle, h6']
            refine ⟨?_, ?_⟩
            · have hK2 : afirst Z1 5 Ti.2.length (.slice (some ⟨x', 0, none⟩) Ti.2.length T.length) = some (Ti.2.flatMap ec) := by simp [afirst, cellsOf_keep kp1 h3, hcut]
              obtain ⟨w2, Z2, y2, ap2, l2, k2_, p2, c2, _⟩ := lat_appN (t := 74) (bytes := 48) (k := Ti.2.length) (new := Ti.2.flatMap ec) g1_.cl m1 (ecs_len _) (ecs_bel _) (by omega)
              simp only [List.nil_append, Nat.zero_add] at l2
              obtain rfl := lat_name l2
              have kp2 : ∀ y ob, Z.m y = some ob → Z2.m y = some ob := fun y ob e => k2_ y ob (kp1 y ob e) (by have := (gz.cl y ob e).1; omega)
              have aq2 := ap2
              try rw [nn1] at aq2
              have N2 : Z.n ≤ Z2.n := by omega
              have fa2 := cellsOf_keep kp2 hfz
              have fb2 := cellsOf_keep kp2 hYp
              have fc2 := cellsOf_keep kp2 h3
              simp [alen, hK2, ap2, aq2, fa2, fb2, fc2, apart, ac, ca5, ab_take (len := T.length) hKle, h6']
              simp [b1, bs_lit]
              have g3_ : Gr Z2 (Z2.push (.cells (ec e) .ex 1)) := (Gr.refl c2).push (ec_bel _)
              have hE3 := cellsOf_new Z2 (ec e) .ex 1
              have nn3 : (Z2.push (.cells (ec e) .ex 1)).n = Z2.n + 1 := rfl
              have l3 := LAt.keep (h' := Z2.push (.cells (ec e) .ex 1)) l2 fun y e => by
                cases e
                have := l2.lt c2
                rw [push_m, if_neg (by omega)]
              have kp3 : ∀ y ob, Z.m y = some ob → (Z2.push (.cells (ec e) .ex 1)).m y = some ob := fun y ob e => g3_.m y ob (kp2 y ob e)
              generalize Z2.push (.cells (ec e) .ex 1) = Z3 at *
              have N3 : Z.n ≤ Z3.n := by omega
              have fa3 := cellsOf_keep kp3 hfz
              have fb3 := cellsOf_keep kp3 hYp
              have fc3 := cellsOf_keep kp3 h3
              simp [b1, bs_lit, fa3, fb3, fc3, apart, ac, ca5, ab_take (len := T.length) hKle, h6']
              have hq4 : afirst Z3 5 1 (.slice (some ⟨Z2.n, 0, none⟩) 1 1) = some (ec e) := by simp [afirst, hE3, ca5]
              obtain ⟨w4, Z4, y4, ap4, l4, k4_, p4, c4, _⟩ := lat_appN (t := 74) (bytes := 48) (k := 1) (new := ec e) g3_.cl l3 rfl (ec_bel _) (by omega)
              have kp4 : ∀ y ob, Z.m y = some ob → Z4.m y = some ob := fun y ob e => k4_ y ob (kp3 y ob e) (by have := (gz.cl y ob e).1; omega)
              have aq4 := ap4
              try rw [nn1] at aq4
              have hr4 := hq4
              try rw [nn1] at hr4
              have N4 : Z.n ≤ Z4.n := by omega
              have fa4 := cellsOf_keep kp4 hfz
              have fb4 := cellsOf_keep kp4 hYp
              have fc4 := cellsOf_keep kp4 h3
              simp [alen, hq4, hr4, ap4, aq4, fa4, fb4, fc4, apart, ac, ca5, ab_take (len := T.length) hKle, h6']
              refine (nin _ _ _ l4).mono ?_
              rintro _ h9 ⟨rfl, e⟩
              rw [e]
              clear e h9
              simp [e1, -Int.natCast_add]
              exact fin _ kp4 N4 c4
            · simp [b1, bs_lit]
              have g2_ : Gr Z1 (Z1.push (.cells (ec e) .ex 1)) := (Gr.refl g1_.cl).push (ec_bel _)
              have hE2 := cellsOf_new Z1 (ec e) .ex 1
              have nn2 : (Z1.push (.cells (ec e) .ex 1)).n = Z1.n + 1 := rfl
              have l2 := LAt.keep (h' := Z1.push (.cells (ec e) .ex 1)) m1 fun y e => by
                cases e
                have := m1.lt g1_.cl
                rw [push_m, if_neg (by omega)]
              have kp2 : ∀ y ob, Z.m y = some ob → (Z1.push (.cells (ec e) .ex 1)).m y = some ob := fun y ob e => g2_.m y ob (kp1 y ob e)
              generalize Z1.push (.cells (ec e) .ex 1) = Z2 at *
              have N2 : Z.n ≤ Z2.n := by omega
              have fa2 := cellsOf_keep kp2 hfz
              have fb2 := cellsOf_keep kp2 hYp
              have fc2 := cellsOf_keep kp2 h3
              simp [b1, bs_lit, fa2, fb2, fc2, apart, ac, ca5, ab_take (len := T.length) hKle, h6']
              have hK3 : afirst Z2 5 Ti.2.length (.slice (some ⟨x', 0, none⟩) Ti.2.length T.length) = some (Ti.2.flatMap ec) := by simp [afirst, cellsOf_keep kp2 h3, hcut]
              obtain ⟨w3, Z3, y3, ap3, l3, k3_, p3, c3, _⟩ := lat_appN (t := 74) (bytes := 48) (k := Ti.2.length) (new := Ti.2.flatMap ec) g2_.cl l2 (ecs_len _) (ecs_bel _) (by omega)
              simp only [List.nil_append, Nat.zero_add] at l3
              obtain rfl := lat_name l3
              have kp3 : ∀ y ob, Z.m y = some ob → Z3.m y = some ob := fun y ob e => k3_ y ob (kp2 y ob e) (by have := (gz.cl y ob e).1; omega)
              have hE3 : Z3.cellsOf Z1.n = some (ec e, .ex, 1) := by
                have := k3_ Z1.n _ (m_of_cells hE2) (by omega)
                unfold Heap.cellsOf
                rw [this]
              have aq3 := ap3
              try rw [nn1] at aq3
              have N3 : Z.n ≤ Z3.n := by omega
              have fa3 := cellsOf_keep kp3 hfz
              have fb3 := cellsOf_keep kp3 hYp
              have fc3 := cellsOf_keep kp3 h3
              simp [alen, hK3, ap3, aq3, fa3, fb3, fc3, apart, ac, ca5, ab_take (len := T.length) hKle, h6']
              have hq4 : afirst Z3 5 1 (.slice (some ⟨Z1.n, 0, none⟩) 1 1) = some (ec e) := by simp [afirst, hE3, ca5]
              obtain ⟨w4, Z4, y4, ap4, l4, k4_, p4, c4, _⟩ := lat_appN (t := 74) (bytes := 48) (k := 1) (new := ec e) c3 l3 rfl (ec_bel _) (by omega)
              have kp4 : ∀ y ob, Z.m y = some ob → Z4.m y = some ob := fun y ob e => k4_ y ob (kp3 y ob e) (by have := (gz.cl y ob e).1; omega)
              have aq4 := ap4
              try rw [nn1] at aq4
              have hr4 := hq4
              try rw [nn1] at hr4
              have N4 : Z.n ≤ Z4.n := by omega
              have fa4 := cellsOf_keep kp4 hfz
              have fb4 := cellsOf_keep kp4 hYp
              have fc4 := cellsOf_keep kp4 h3
              simp [alen, hq4, hr4, ap4, aq4, fa4, fb4, fc4, apart, ac, ca5, ab_take (len := T.length) hKle, h6']
              refine (nin _ _ _ l4).mono ?_
              rintro _ h9 ⟨rfl, e⟩
              rw [e]
              clear e h9
              simp [e1, -Int.natCast_add]
              exact fin _ kp4 N4 c4
          · simp [b1, bs_lit]
            have g1_ : Gr Z (Z.push (.cells (ec e) .ex 1)) := (Gr.refl gz.cl).push (ec_bel _)
            have hE1 := cellsOf_new Z (ec e) .ex 1
            have nn1 : (Z.push (.cells (ec e) .ex 1)).n = Z.n + 1 := rfl
            have kp1 : ∀ y ob, Z.m y = some ob → (Z.push (.cells (ec e) .ex 1)).m y = some ob := fun y ob e => g1_.m y ob (kp0 y ob e)
            generalize Z.push (.cells (ec e) .ex 1) = Z1 at *
            have N1 : Z.n ≤ Z1.n := by omega
            have fa1 := cellsOf_keep kp1 hfz
            have fb1 := cellsOf_keep kp1 hYp
            have fc1 := cellsOf_keep kp1 h3
            simp [b1, bs_lit, fa1, fb1, fc1, apart, ac, ca5, ab_take (len := T.length) hKle, h6']
            simp [fil0]
            have m2 := LAt.made Z1 5
            have g2_ : Gr Z1 (Z1.push (.cells [] .ex 1)) := (Gr.refl g1_.cl).push (fun x hx => by cases hx)
            have X2 : Z.n ≤ Z1.n := N1
            have nn2 : (Z1.push (.cells [] .ex 1)).n = Z1.n + 1 := rfl
            have hE2 := cellsOf_keep g2_.m hE1
            have kp2 : ∀ y ob, Z.m y = some ob → (Z1.push (.cells [] .ex 1)).m y = some ob := fun y ob e => g2_.m y ob (kp1 y ob e)
            generalize Z1.push (.cells [] .ex 1) = Z2 at *
            have N2 : Z.n ≤ Z2.n := by omega
            have fa2 := cellsOf_keep kp2 hfz
            have fb2 := cellsOf_keep kp2 hYp
            have fc2 := cellsOf_keep kp2 h3
            simp [fa2, fb2, fc2, apart, ac, ca5, ab_take (len := T.length) hKle, h6']
            have hK3 : afirst Z2 5 Ti.2.length (.slice (some ⟨x', 0, none⟩) Ti.2.length T.length) = some (Ti.2.flatMap ec) := by simp [afirst, cellsOf_keep kp2 h3, hcut]
            obtain ⟨w3, Z3, y3, ap3, l3, k3_, p3, c3, _⟩ := lat_appN (t := 74) (bytes := 48) (k := Ti.2.length) (new := Ti.2.flatMap ec) g2_.cl m2 (ecs_len _) (ecs_bel _) (by omega)
            simp only [List.nil_append, Nat.zero_add] at l3
            obtain rfl := lat_name l3
            have kp3 : ∀ y ob, Z.m y = some ob → Z3.m y = some ob := fun y ob e => k3_ y ob (kp2 y ob e) (by have := (gz.cl y ob e).1; omega)
            have hE3 : Z3.cellsOf Z.n = some (ec e, .ex, 1) := by
              have := k3_ Z.n _ (m_of_cells hE2) (by omega)
              unfold Heap.cellsOf
              rw [this]
            have aq3 := ap3
            try rw [nn1] at aq3
            have N3 : Z.n ≤ Z3.n := by omega
            have fa3 := cellsOf_keep kp3 hfz
            have fb3 := cellsOf_keep kp3 hYp
            have fc3 := cellsOf_keep kp3 h3
            simp [alen, hK3, ap3, aq3, fa3, fb3, fc3, apart, ac, ca5, ab_take (len := T.length) hKle, h6']
            have hq4 : afirst Z3 5 1 (.slice (some ⟨Z.n, 0, none⟩) 1 1) = some (ec e) := by simp [afirst, hE3, ca5]
            obtain ⟨w4, Z4, y4, ap4, l4, k4_, p4, c4, _⟩ := lat_appN (t := 74) (bytes := 48) (k := 1) (new := ec e) c3 l3 rfl (ec_bel _) (by omega)
            have kp4 : ∀ y ob, Z.m y = some ob → Z4.m y = some ob := fun y ob e => k4_ y ob (kp3 y ob e) (by have := (gz.cl y ob e).1; omega)
            have aq4 := ap4
            try rw [nn1] at aq4
            have hr4 := hq4
            try rw [nn1] at hr4
            have N4 : Z.n ≤ Z4.n := by omega
            have fa4 := cellsOf_keep kp4 hfz
            have fb4 := cellsOf_keep kp4 hYp
            have fc4 := cellsOf_keep kp4 h3
            simp [alen, hq4, hr4, ap4, aq4, fa4, fb4, fc4, apart, ac, ca5, ab_take (len := T.length) hKle, h6']
            refine (nin _ _ _ l4).mono ?_
            rintro _ h9 ⟨rfl, e⟩
            rw [e]
            clear e h9
            simp [e1, -Int.natCast_add]
            exact fin _ kp4 N4 c4
        · simp [hK]
          simp [gk1, hk15, hfz, apart, ac, ab_take (len := T.length) hKle, h3, h6', hYp, ca5, fil0]
          refine ⟨?_, ?_⟩
          · have m1 := LAt.made Z 5
            have g1_ : Gr Z (Z.push (.cells [] .ex 1)) := (Gr.refl gz.cl).push (fun x hx => by cases hx)
            have X1 : Z.n ≤ Z.n := n0_
            have nn1 : (Z.push (.cells [] .ex 1)).n = Z.n + 1 := rfl
            have kp1 : ∀ y ob, Z.m y = some ob → (Z.push (.cells [] .ex 1)).m y = some ob := fun y ob e => g1_.m y ob (kp0 y ob e)
            generalize Z.push (.cells [] .ex 1) = Z1 at *
            have N1 : Z.n ≤ Z1.n := by omega
            have fa1 := cellsOf_keep kp1 hfz
            have fb1 := cellsOf_keep kp1 hYp
            have fc1 := cellsOf_keep kp1 h3
            simp [fa1, fb1, fc1, apart, ac, ca5, ab_take (len := T.length) hKle, h6']
            refine ⟨?_, ?_⟩
            · have hK2 : afirst Z1 5 Ti.2.length (.slice (some ⟨x', 0, none⟩) Ti.2.length T.length) = some (Ti.2.flatMap ec) := by simp [afirst, cellsOf_keep kp1 h3, hcut]
              obtain ⟨w2, Z2, y2, ap2, l2, k2_, p2, c2, _⟩ := lat_appN (t := 74) (bytes := 48) (k := Ti.2.length) (new := Ti.2.flatMap ec) g1_.cl m1 (ecs_len _) (ecs_bel _) (by omega)
              simp only [List.nil_append, Nat.zero_add] at l2
              obtain rfl := lat_name l2
              have kp2 : ∀ y ob, Z.m y = some ob → Z2.m y = some ob := fun y ob e => k2_ y ob (kp1 y ob e) (by have := (gz.cl y ob e).1; omega)
              have aq2 := ap2
              try rw [nn1] at aq2
              have N2 : Z.n ≤ Z2.n := by omega
              have fa2 := cellsOf_keep kp2 hfz
              have fb2 := cellsOf_keep kp2 hYp
              have fc2 := cellsOf_keep kp2 h3
              simp [alen, hK2, ap2, aq2, fa2, fb2, fc2, apart, ac, ca5, ab_take (len := T.length) hKle, h6']
              simp [b1, bs_lit]
              have g3_ : Gr Z2 (Z2.push (.cells (ec e) .ex 1)) := (Gr.refl c2).push (ec_bel _)
              have hE3 := cellsOf_new Z2 (ec e) .ex 1
              have nn3 : (Z2.push (.cells (ec e) .ex 1)).n = Z2.n + 1 := rfl
              have l3 := LAt.keep (h' := Z2.push (.cells (ec e) .ex 1)) l2 fun y e => by
                cases e
                have := l2.lt c2
                rw [push_m, if_neg (by omega)]
              have kp3 : ∀ y ob, Z.m y = some ob → (Z2.push (.cells (ec e) .ex 1)).m y = some ob := fun y ob e => g3_.m y ob (kp2 y ob e)
              generalize Z2.push (.cells (ec e) .ex 1) = Z3 at *
              have N3 : Z.n ≤ Z3.n := by omega
              have fa3 := cellsOf_keep kp3 hfz
              have fb3 := cellsOf_keep kp3 hYp
              have fc3 := cellsOf_keep kp3 h3
              simp [b1, bs_lit, fa3, fb3, fc3, apart, ac, ca5, ab_take (len := T.length) hKle, h6']
              have hq4 : afirst Z3 5 1 (.slice (some ⟨Z2.n, 0, none⟩) 1 1) = some (ec e) := by simp [afirst, hE3, ca5]
              obtain ⟨w4, Z4, y4, ap4, l4, k4_, p4, c4, _⟩ := lat_appN (t := 74) (bytes := 48) (k := 1) (new := ec e) g3_.cl l3 rfl (ec_bel _) (by omega)
              have kp4 : ∀ y ob, Z.m y = some ob → Z4.m y = some ob := fun y ob e => k4_ y ob (kp3 y ob e) (by have := (gz.cl y ob e).1; omega)
              have aq4 := ap4
              try rw [nn1] at aq4
              have hr4 := hq4
              try rw [nn1] at hr4
              have N4 : Z.n ≤ Z4.n := by omega
              have fa4 := cellsOf_keep kp4 hfz
              have fb4 := cellsOf_keep kp4 hYp
              have fc4 := cellsOf_keep kp4 h3
              simp [alen, hq4, hr4, ap4, aq4, fa4, fb4, fc4, apart, ac, ca5, ab_take (len := T.length) hKle, h6']
              refine (nin _ _ _ l4).mono ?_
              rintro _ h9 ⟨rfl, e⟩
              rw [e]
              clear e h9
              simp [e1, -Int.natCast_add]
              exact fin _ kp4 N4 c4
            · simp [b1, bs_lit]
              have g2_ : Gr Z1 (Z1.push (.cells (ec e) .ex 1)) := (Gr.refl g1_.cl).push (ec_bel _)
              have hE2 := cellsOf_new Z1 (ec e) .ex 1
              have nn2 : (Z1.push (.cells (ec e) .ex 1)).n = Z1.n + 1 := rfl
              have l2 := LAt.keep (h' := Z1.push (.cells (ec e) .ex 1)) m1 fun y e => by
                cases e
                have := m1.lt g1_.cl
                rw [push_m, if_neg (by omega)]
              have kp2 : ∀ y ob, Z.m y = some ob → (Z1.push (.cells (ec e) .ex 1)).m y = some ob := fun y ob e => g2_.m y ob (kp1 y ob e)
              generalize Z1.push (.cells (ec e) .ex 1) = Z2 at *
              have N2 : Z.n ≤ Z2.n := by omega
              have fa2 := cellsOf_keep kp2 hfz
              have fb2 := cellsOf_keep kp2 hYp
              have fc2 := cellsOf_keep kp2 h3
              simp [b1, bs_lit, fa2, fb2, fc2, apart, ac, ca5, ab_take (len := T.length) hKle, h6']
              have hK3 : afirst Z2 5 Ti.2.length (.slice (some ⟨x', 0, none⟩) Ti.2.length T.length) = some (Ti.2.flatMap ec) := by simp [afirst, cellsOf_keep kp2 h3, hcut]
              obtain ⟨w3, Z3, y3, ap3, l3, k3_, p3, c3, _⟩ := lat_appN (t := 74) (bytes := 48) (k := Ti.2.length) (new := Ti.2.flatMap ec) g2_.cl l2 (ecs_len _) (ecs_bel _) (by omega)
              simp only [List.nil_append, Nat.zero_add] at l3
              obtain rfl := lat_name l3
              have kp3 : ∀ y ob, Z.m y = some ob → Z3.m y = some ob := fun y ob e => k3_ y ob (kp2 y ob e) (by have := (gz.cl y ob e).1; omega)
              have hE3 : Z3.cellsOf Z1.n = some (ec e, .ex, 1) := by
                have := k3_ Z1.n _ (m_of_cells hE2) (by omega)
                unfold Heap.cellsOf
                rw [this]
              have aq3 := ap3
              try rw [nn1] at aq3
              have N3 : Z.n ≤ Z3.n := by omega
              have fa3 := cellsOf_keep kp3 hfz
              have fb3 := cellsOf_keep kp3 hYp
              have fc3 := cellsOf_keep kp3 h3
              simp [alen, hK3, ap3, aq3, fa3, fb3, fc3, apart, ac, ca5, ab_take (len := T.length) hKle, h6']
              have hq4 : afirst Z3 5 1 (.slice (some ⟨Z1.n, 0, none⟩) 1 1) = some (ec e) := by simp [afirst, hE3, ca5]
              obtain ⟨w4, Z4, y4, ap4, l4, k4_, p4, c4, _⟩ := lat_appN (t := 74) (bytes := 48) (k := 1) (new := ec e) c3 l3 rfl (ec_bel _) (by omega)
              have kp4 : ∀ y ob, Z.m y = some ob → Z4.m y = some ob := fun y ob e => k4_ y ob (kp3 y ob e) (by have := (gz.cl y ob e).1; omega)
              have aq4 := ap4
              try rw [nn1] at aq4
              have hr4 := hq4
              try rw [nn1] at hr4
              have N4 : Z.n ≤ Z4.n := by omega
              have fa4 := cellsOf_keep kp4 hfz
              have fb4 := cellsOf_keep kp4 hYp
              have fc4 := cellsOf_keep kp4 h3
              simp [alen, hq4, hr4, ap4, aq4, fa4, fb4, fc4, apart, ac, ca5, ab_take (len := T.length) hKle, h6']
              refine (nin _ _ _ l4).mono ?_
              rintro _ h9 ⟨rfl, e⟩
              rw [e]
              clear e h9
              simp [e1, -Int.natCast_add]
              exact fin _ kp4 N4 c4
          · simp [b1, bs_lit]
            have g1_ : Gr Z (Z.push (.cells (ec e) .ex 1)) := (Gr.refl gz.cl).push (ec_bel _)
            have hE1 := cellsOf_new Z (ec e) .ex 1
            have nn1 : (Z.push (.cells (ec e) .ex 1)).n = Z.n + 1 := rfl
            have kp1 : ∀ y ob, Z.m y = some ob → (Z.push (.cells (ec e) .ex 1)).m y = some ob := fun y ob e => g1_.m y ob (kp0 y ob e)
            generalize Z.push (.cells (ec e) .ex 1) = Z1 at *
            have N1 : Z.n ≤ Z1.n := by omega
            have fa1 := cellsOf_keep kp1 hfz
            have fb1 := cellsOf_keep kp1 hYp
            have fc1 := cellsOf_keep kp1 h3
            simp [b1, bs_lit, fa1, fb1, fc1, apart, ac, ca5, ab_take (len := T.length) hKle, h6']
            simp [fil0]
            have m2 := LAt.made Z1 5
            have g2_ : Gr Z1 (Z1.push (.cells [] .ex 1)) := (Gr.refl g1_.cl).push (fun x hx => by cases hx)
            have X2 : Z.n ≤ Z1.n := N1
            have nn2 : (Z1.push (.cells [] .ex 1)).n = Z1.n + 1 := rfl
            have hE2 := cellsOf_keep g2_.m hE1
            have kp2 : ∀ y ob, Z.m y = some ob → (Z1.push (.cells [] .ex 1)).m y = some ob := fun y ob e => g2_.m y ob (kp1 y ob e)
            generalize Z1.push (.cells [] .ex 1) = Z2 at *
            have N2 : Z.n ≤ Z2.n := by omega
            have fa2 := cellsOf_keep kp2 hfz
            have fb2 := cellsOf_keep kp2 hYp
            have fc2 := cellsOf_keep kp2 h3
            simp [fa2, fb2, fc2, apart, ac, ca5, ab_take (len := T.length) hKle, h6']
            have hK3 : afirst Z2 5 Ti.2.length (.slice (some ⟨x', 0, none⟩) Ti.2.length T.length) = some (Ti.2.flatMap ec) := by simp [afirst, cellsOf_keep kp2 h3, hcut]
            obtain ⟨w3, Z3, y3, ap3, l3, k3_, p3, c3, _⟩ := lat_appN (t := 74) (bytes := 48) (k := Ti.2.length) (new := Ti.2.flatMap ec) g2_.cl m2 (ecs_len _) (ecs_bel _) (by omega)
            simp only [List.nil_append, Nat.zero_add] at l3
            obtain rfl := lat_name l3
            have kp3 : ∀ y ob, Z.m y = some ob → Z3.m y = some ob := fun y ob e => k3_ y ob (kp2 y ob e) (by have := (gz.cl y ob e).1; omega)
            have hE3 : Z3.cellsOf Z.n = some (ec e, .ex, 1) := by
              have := k3_ Z.n _ (m_of_cells hE2) (by omega)
              unfold Heap.cellsOf
              rw [this]
            have aq3 := ap3
            try rw [nn1] at aq3
            have N3 : Z.n ≤ Z3.n := by omega
            have fa3 := cellsOf_keep kp3 hfz
            have fb3 := cellsOf_keep kp3 hYp
            have fc3 := cellsOf_keep kp3 h3
            simp [alen, hK3, ap3, aq3, fa3, fb3, fc3, apart, ac, ca5, ab_take (len := T.length) hKle, h6']
            have hq4 : afirst Z3 5 1 (.slice (some ⟨Z.n, 0, none⟩) 1 1) = some (ec e) := by simp [afirst, hE3, ca5]
            obtain ⟨w4, Z4, y4, ap4, l4, k4_, p4, c4, _⟩ := lat_appN (t := 74) (bytes := 48) (k := 1) (new := ec e) c3 l3 rfl (ec_bel _) (by omega)
            have kp4 : ∀ y ob, Z.m y = some ob → Z4.m y = some ob := fun y ob e => k4_ y ob (kp3 y ob e) (by have := (gz.cl y ob e).1; omega)
            have aq4 := ap4
            try rw [nn1] at aq4
            have hr4 := hq4
            try rw [nn1] at hr4
            have N4 : Z.n ≤ Z4.n := by omega
            have fa4 := cellsOf_keep kp4 hfz
            have fb4 := cellsOf_keep kp4 hYp
            have fc4 := cellsOf_keep kp4 h3
            simp [alen, hq4, hr4, ap4, aq4, fa4, fb4, fc4, apart, ac, ca5, ab_take (len := T.length) hKle, h6']
            refine (nin _ _ _ l4).mono ?_
            rintro _ h9 ⟨rfl, e⟩
            rw [e]
            clear e h9
            simp [e1, -Int.natCast_add]
            exact fin _ kp4 N4 c4
  · have hie : i = l.length := by omega
    subst hie
    rw [hfin]
    simp only [c9_0]
    simp [hTT]
end Go.Proofs.Ythhhcpbkedikfaa.budt
