/-
  Contracts.
-/
import Derived.Test.YthhhcpbkedikfaaShas
import Derived.Test.YthhhcpbkedikfaaShaw
import Derived.Test.YthhhcpbkedikfaaShar
import Derived.Test.YthhhcpbkedikfaaHead
import Derived.Test.YthhhcpbkedikfaaSha
import Derived.Test.YthhhcpbkedikfaaNum
import Derived.Test.YthhhcpbkedikfaaAbEnter
import Derived.Test.YthhhcpbkedikfaaProg
import Derived.IntWalk
import Derived.KernelRfl
set_option linter.unusedSimpArgs false
set_option linter.unusedVariables false
namespace Go.Proofs.Ythhhcpbkedikfaa.shap
open Go Go.Ab Go.Proofs Go.RowKit Go.Proofs.Ythhhcpbkedikfaa.num Go.Proofs.Ythhhcpbkedikfaa.sha Go.Proofs.Ythhhcpbkedikfaa.head Go.Proofs.Ythhhcpbkedikfaa.shar Go.Proofs.Ythhhcpbkedikfaa.shaw Go.Proofs.Ythhhcpbkedikfaa.shas
set_option maxRecDepth 100000
attribute [local simp] s_ops s_seq s_cond s_cond_t s_cond_f s_block s_exit s_ret s_skip s_then_n s_then_n' s_then_e s_then_e' s_then_r s_then_r' s_block_n s_block_r s_block_e s_post_r s_post_n s_res0 s_res1 s_res2 s_res3 s_res4 s_nil s_cons s_guard s_guard_tt s_guard_ff s_guard_tf s_guard_ft s_guard_u s_call s_kL s_put s_put0 s_set s_tmp s_const s_func s_init s_mkF s_mkF0 s_mv s_bin s_pick s_op aop oK_some oK_none bK_some bK_none b_add b_sub b_mul b_quo b_rem b_and b_or b_xor b_andNot b_shl b_shr b_eql b_neq b_lss b_leq b_gtr b_geq b_sadd b_seql b_sneq b_slss b_sleq b_sgtr b_sgeq s_draw s_stage s_stage0 s_kW s_kR s_rc0 s_rc s_rcg rK_some rK_none rG_b rG_u s_callv s_callv_f s_nextM s_postR_r s_postR_n s_resA0 s_resAt s_resAc s_resC s_tup0 s_tup1 s_tup2 s_tup3
/-- two digests made behind h0 that share nothing -/
structure D2 (h0 : Heap) (b1 : Nat) (n1 : Option Nat) (T1 : List UInt8) (b2 : Nat) (n2 : Option Nat) (T2 : List UInt8) (H : Heap) : Prop where
  d1 : Dl h0 b1 n1 T1 H
  d2 : Dl h0 b2 n2 T2 H
  bb : b1 ≠ b2
  nb : n1 ≠ some b2
  bn : n2 ≠ some b1
  nn : ∀ y, n1 = some y → n2 ≠ some y
theorem D2.swap {h0 : Heap} {b1 : Nat} {n1 : Option Nat} {T1 : List UInt8} {b2 : Nat} {n2 : Option Nat} {T2 : List UInt8} {H : Heap} (d : D2 h0 b1 n1 T1 b2 n2 T2 H) : D2 h0 b2 n2 T2 b1 n1 T1 H :=
  ⟨d.d2, d.d1, fun e => d.bb e.symm, d.bn, d.nb, fun y e1 e2 => d.nn y e2 e1⟩
theorem dl_other {h0 H H' : Heap} {b1 : Nat} {n1 : Option Nat} {T1 : List UInt8} {b2 : Nat} {n2 : Option Nat} {T2 : List UInt8} (d : D2 h0 b1 n1 T1 b2 n2 T2 H) (g : Gr h0 H') (hF : Fr H b1 n1 H') : Dl h0 b2 n2 T2 H' :=
  ⟨d.d2.c0, d.d2.b0, g, digK_keep d.d2.d fun y ob e q => hF.2 y ob e (by
    rcases q with q | q
    · intro e'; exact d.bb (e'.symm.trans q)
    · intro e'; rw [e'] at q; exact d.bn q) (by
    rcases q with q | q
    · intro e'; rw [q] at e'; exact d.nb e'
    · intro e'; exact d.nn y e' q), d.d2.n0⟩
theorem d2_write {h0 : Heap} {b1 : Nat} {n1 : Option Nat} {T1 : List UInt8} {b2 : Nat} {n2 : Option Nat} {T2 : List UInt8} {H : Heap} (s : List UInt8) (d : D2 h0 b1 n1 T1 b2 n2 T2 H) (hn : T1.length + s.length ≤ 50000000) :
    ACalls Try.prog 64 [.pointer (some ⟨b1, 0, none⟩), .slice (some ⟨H.n, 0, none⟩) 1 1] (H.push (.cells [.string (bs s)] .ex 1)) fun r h' => r = .tuple #[] ∧ ∃ n1', D2 h0 b1 n1' (T1 ++ s) b2 n2 T2 h' := by
  refine (write1_ok b1 n1 T1 s H d.d1 hn).mono ?_
  rintro r h' ⟨hr, nm', q1, q2, q3⟩
  have l2 := digK_lt d.d2.gr.cl d.d2.d
  refine ⟨hr, nm', q1, dl_other d q1.gr q2, d.bb, ?_, d.bn, ?_⟩
  · rcases q3 with q3 | ⟨y, h1, h2⟩
    · rw [q3]; exact d.nb
    · rw [h1]; intro e; cases e; omega
  · rcases q3 with q3 | ⟨y, h1, h2⟩
    · rw [q3]; exact d.nn
    · intro z e1 e2
      rw [h1] at e1; cases e1
      have := l2.2 _ e2
      omega
theorem take_over {α : Type} (l : List (List α)) (i : Nat) (h : ¬ i < l.length) : (l.take (i + 1)).flatten = (l.take i).flatten := by
  rw [List.take_of_length_le (by omega), List.take_of_length_le (by omega)]
structure ZA where
  i : Nat
  H : Heap
  n1 : Option Nat
  n2 : Option Nat
set_option maxHeartbeats 1000000 in
theorem shaApart_ok (l m : List (List UInt8)) (v w : Value) (h : Heap) (hl : Sl enS h v l) (hm : Sl enS h w m) (hs : ∀ s ∈ l, s.length ≤ 140737488351232) (hsm : ∀ s ∈ m, s.length ≤ 140737488351232) (hln : l.length ≤ 9223372036854775807) (hmn : m.length ≤ 9223372036854775807) :
    ACalls Try.prog 13 [v, w] h fun v _ => v = .bool true := by
  refine acalls_of mix Try.func13 k13 n13 (by simp) fun hcl hb => ?_
  have bl := Sl.below hl hcl
  have bm := Sl.below hm hcl
  obtain ⟨ad, c, rfl⟩ := Sl.form hl
  obtain ⟨ae, d, rfl⟩ := Sl.form hm
  have fil : ∀ s, afill [.string (bs [])] [(0, 1, .string (bs s))] = some [.string (bs s)] := fun _ => rfl
  simp only [c13, s_seq, s_ops]
  simp
  refine (sawake_ok _).mono ?_
  rintro _ h9 ⟨rfl, e⟩
  rw [e]
  clear e h9
  simp [aun]
  refine (long_ok l _ _ hl hs hln).mono ?_
  rintro _ h9 ⟨rfl, e⟩
  rw [e]
  clear e h9
  simp
  cases hlong : longV l with
  | true => simp [hlong]
  | false =>
  obtain ⟨hl3, hl6⟩ := long_no hlong
  simp [hlong]
  refine (long_ok m _ _ hm hsm hmn).mono ?_
  rintro _ h9 ⟨rfl, e⟩
  rw [e]
  clear e h9
  simp
  cases hlongm : longV m with
  | true => simp [hlongm]
  | false =>
  obtain ⟨hm3, hm6⟩ := long_no hlongm
  simp [hlongm]
  refine (dl_new _).mono ?_
  rintro _ H1 ⟨b1, rfl, hd1⟩
  simp
  refine (dl_new _).mono ?_
  rintro _ H2 ⟨b2, rfl, hd2⟩
  have hb1 := digK_lt hd1.gr.cl hd1.d
  have hD : D2 h b1 none [] b2 none [] H2 := ⟨⟨hd1.c0, hd1.b0, ⟨Nat.le_trans hd1.gr.n hd2.gr.n, hd2.gr.cl, fun y ob e => hd2.gr.m y ob (hd1.gr.m y ob e)⟩, digK_keep hd1.d fun y ob e _ => hd2.gr.m y ob e, hd1.n0⟩,
    ⟨hd1.c0, Nat.le_trans hd1.gr.n hd2.b0, ⟨Nat.le_trans hd1.gr.n hd2.gr.n, hd2.gr.cl, fun y ob e => hd2.gr.m y ob (hd1.gr.m y ob e)⟩, hd2.d, fun y e => by cases e⟩, by have := hd2.b0; omega, by simp, by simp, fun y e => by cases e⟩
  clear hd1 hd2 hb1
  simp
  refine awp_loop_of (α := ZA) (fun z => z.i ≤ 60 ∧ D2 h b1 z.n1 (l.take z.i).flatten b2 z.n2 (m.take z.i).flatten z.H)
    (fun z => [(0, .slice ad l.length c), (1, .slice ae m.length d), (5, .pointer (some ⟨b1, 0, none⟩)), (6, .pointer (some ⟨b2, 0, none⟩)), (7, .int .i64 z.i)])
    (fun z => z.H) (fun z => 60 - z.i) ⟨0, H2, none, none⟩
    ⟨Nat.zero_le _, by simpa using hD⟩ ⟨hD.d1.gr.n, Nat.le_refl _, fun _ _ e => e, hD.d1.gr.cl⟩
    (by
      have q1 := hD.d1.gr.n
      have q2 := (digK_lt hD.d1.gr.cl hD.d1.d).1
      have q3 := (digK_lt hD.d2.gr.cl hD.d2.d).1
      simp
      exact ⟨bl.mono q1, bm.mono q1, .ptr q2, .ptr q3, .int⟩) ?_
  rintro ⟨i, H, n1, n2⟩ ⟨hi, hd⟩
  dsimp only at hi hd ⊢
  have e1 : IntKind.i64.wrap ((i : Int) + 1) = ((i + 1 : Nat) : Int) := by rw [IntWalk.i64_in _ (by omega)]; omega
  have fin : ∀ {H' : Heap} {n1' n2' : Option Nat}, D2 h b1 n1' (l.take (i + 1)).flatten b2 n2' (m.take (i + 1)).flatten H' → (h.n ≤ H'.n ∧ H'.Closed ∧ VBelow H'.n (.slice ad l.length c) ∧ VBelow H'.n (.slice ae m.length d) ∧ b1 < H'.n ∧ b2 < H'.n) := fun hd' => by
    have q1 := hd'.d1.gr.n
    exact ⟨q1, hd'.d1.gr.cl, bl.mono q1, bm.mono q1, (digK_lt hd'.d1.gr.cl hd'.d1.d).1, (digK_lt hd'.d2.gr.cl hd'.d2.d).1⟩
  have tl1 := flat_take l (i + 1)
  have tm1 := flat_take m (i + 1)
  by_cases hil : i < l.length
  · have hi' : (i : Int) < (l.length : Int) := by omega
    have hsucc := flat_succ l i hil
    have tl2 := tl1
    rw [hsucc, List.length_append] at tl2
    obtain ⟨bA, oA, csA, mA, eA, rfl, _, gA1, gA2⟩ := Sl.at (hl.keep hd.d1.gr.m) hil
    have hen : enS l[i] = .string (bs l[i]) := rfl
    simp [hi', aidx_of hil, gA1, apart, gA2, hen, fil, bs_lit]
    refine (d2_write l[i] hd (by omega)).mono ?_
    rintro _ H5 ⟨rfl, n5, hd5⟩
    rw [← hsucc] at hd5
    by_cases him : i < m.length
    · have hi2 : (i : Int) < (m.length : Int) := by omega
      have hsucm := flat_succ m i him
      have tm2 := tm1
      rw [hsucm, List.length_append] at tm2
      obtain ⟨bB, oB, csB, mB, eB, rfl, _, gB1, gB2⟩ := Sl.at (hm.keep hd5.d1.gr.m) him
      have hen2 : enS m[i] = .string (bs m[i]) := rfl
      simp [hi2, aidx_of him, gB1, apart, gB2, hen2, fil, bs_lit]
      refine (d2_write m[i] hd5.swap (by omega)).mono ?_
      rintro _ H6 ⟨rfl, n6, hd6⟩
      rw [← hsucm] at hd6
      have hd6 := hd6.swap
      simp
      refine (dsum_ok b1 n5 _ _ hd6.d1.d (by omega)).mono ?_
      rintro _ h9 ⟨rfl, e⟩
      rw [e]
      clear e h9
      simp [e1, -Int.natCast_add]
      obtain ⟨q1, q2, q3, q4, q5, q6⟩ := fin hd6
      exact ⟨⟨i + 1, H6, n5, n6⟩, by show 60 - (i + 1) < 60 - i; omega, ⟨by show i + 1 ≤ 60; omega, hd6⟩, ⟨q1, Nat.le_refl _, fun _ _ e => e, q2⟩, q3, q4, .ptr q5, .ptr q6, rfl, .int⟩
    · have hi2 : ¬ (i : Int) < (m.length : Int) := by omega
      have hovr := take_over m i him
      rw [← hovr] at hd5
      simp [hi2]
      refine (dsum_ok b1 n5 _ _ hd5.d1.d (by omega)).mono ?_
      rintro _ h9 ⟨rfl, e⟩
      rw [e]
      clear e h9
      simp [e1, -Int.natCast_add]
      obtain ⟨q1, q2, q3, q4, q5, q6⟩ := fin hd5
      exact ⟨⟨i + 1, H5, n5, n2⟩, by show 60 - (i + 1) < 60 - i; omega, ⟨by show i + 1 ≤ 60; omega, hd5⟩, ⟨q1, Nat.le_refl _, fun _ _ e => e, q2⟩, q3, q4, .ptr q5, .ptr q6, rfl, .int⟩
  · have hi' : ¬ (i : Int) < (l.length : Int) := by omega
    by_cases him : i < m.length
    · have hi2 : (i : Int) < (m.length : Int) := by omega
      have hsucm := flat_succ m i him
      have tm2 := tm1
      rw [hsucm, List.length_append] at tm2
      have hovr := take_over l i hil
      rw [← hovr] at hd
      obtain ⟨bB, oB, csB, mB, eB, rfl, _, gB1, gB2⟩ := Sl.at (hm.keep hd.d1.gr.m) him
      have hen2 : enS m[i] = .string (bs m[i]) := rfl
      simp [hi', hi2, aidx_of him, gB1, apart, gB2, hen2, fil, bs_lit]
      refine (d2_write m[i] hd.swap (by omega)).mono ?_
      rintro _ H6 ⟨rfl, n6, hd6⟩
      rw [← hsucm] at hd6
      have hd6 := hd6.swap
      simp
      refine (dsum_ok b1 n1 _ _ hd6.d1.d (by omega)).mono ?_
      rintro _ h9 ⟨rfl, e⟩
      rw [e]
      clear e h9
      simp [e1, -Int.natCast_add]
      obtain ⟨q1, q2, q3, q4, q5, q6⟩ := fin hd6
      exact ⟨⟨i + 1, H6, n1, n6⟩, by show 60 - (i + 1) < 60 - i; omega, ⟨by show i + 1 ≤ 60; omega, hd6⟩, ⟨q1, Nat.le_refl _, fun _ _ e => e, q2⟩, q3, q4, .ptr q5, .ptr q6, rfl, .int⟩
    · have hi2 : ¬ (i : Int) < (m.length : Int) := by omega
      rw [List.take_of_length_le (by omega), List.take_of_length_le (by omega)] at hd
      have heL := eq_32 (shaB_len l.flatten) (shaB_len l.flatten)
      have heM := eq_32 (shaB_len m.flatten) (shaB_len m.flatten)
      have heLM := eq_32 (shaB_len l.flatten) (shaB_len m.flatten)
      have hl' := hl.keep hd.d1.gr.m
      have hm' := hm.keep hd.d1.gr.m
      simp [hi', hi2]
      refine (joined_ok l _ _ hl' (by omega) (by omega)).mono ?_
      rintro _ h9 ⟨rfl, e⟩
      rw [e]
      clear e h9
      simp
      refine (joined_ok m _ _ hm' (by omega) (by omega)).mono ?_
      rintro _ h9 ⟨rfl, e⟩
      rw [e]
      clear e h9
      simp
      refine (dsum_ok b1 n1 _ _ hd.d1.d (by omega)).mono ?_
      rintro _ h9 ⟨rfl, e⟩
      rw [e]
      clear e h9
      simp
      refine (sum_ok l _ _ hl' (by omega) (by omega)).mono ?_
      rintro _ h9 ⟨rfl, e⟩
      rw [e]
      clear e h9
      simp [heL]
      refine (dsum_ok b2 n2 _ _ hd.d2.d (by omega)).mono ?_
      rintro _ h9 ⟨rfl, e⟩
      rw [e]
      clear e h9
      simp
      refine (sum_ok m _ _ hm' (by omega) (by omega)).mono ?_
      rintro _ h9 ⟨rfl, e⟩
      rw [e]
      clear e h9
      simp [heM]
      by_cases hj : l.flatten = m.flatten
      · simp [bs_inj, hj, aun]
        refine (dsum_ok b1 n1 _ _ hd.d1.d (by omega)).mono ?_
        rintro _ h9 ⟨rfl, e⟩
        rw [e]
        clear e h9
        simp
        refine (dsum_ok b2 n2 _ _ hd.d2.d (by omega)).mono ?_
        rintro _ h9 ⟨rfl, e⟩
        rw [e]
        clear e h9
        simp [hj, heM]
        refine (dlen_ok b1 n1 _ _ _ hd.d1.d).mono ?_
        rintro _ h9 ⟨rfl, e⟩
        rw [e]
        clear e h9
        simp
        refine (dlen_ok b2 n2 _ _ _ hd.d2.d).mono ?_
        rintro _ h9 ⟨rfl, e⟩
        rw [e]
        clear e h9
        have hjl := congrArg List.length hj
        simp only [List.length_flatten] at hjl
        simp [hjl]
      · simp [bs_inj, hj, aun]
end Go.Proofs.Ythhhcpbkedikfaa.shap
