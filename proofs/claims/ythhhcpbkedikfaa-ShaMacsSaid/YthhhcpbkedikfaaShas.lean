/-
  Contracts.
-/
import Derived.Test.YthhhcpbkedikfaaShaw
import Derived.Test.YthhhcpbkedikfaaShar
import Derived.Test.YthhhcpbkedikfaaHead
import Derived.Test.YthhhcpbkedikfaaSha
import Derived.Test.YthhhcpbkedikfaaNum
import Derived.Test.YthhhcpbkedikfaaAbEnter
import Derived.Test.YthhhcpbkedikfaaProg
import Derived.IntWalk
import Derived.KernelRfl
set_option linter.unusedSimpArgs false
set_option linter.unusedVariables false
namespace Go.Proofs.Ythhhcpbkedikfaa.shas
open Go Go.Ab Go.Proofs Go.RowKit Go.Proofs.Ythhhcpbkedikfaa.num Go.Proofs.Ythhhcpbkedikfaa.sha Go.Proofs.Ythhhcpbkedikfaa.head Go.Proofs.Ythhhcpbkedikfaa.shar Go.Proofs.Ythhhcpbkedikfaa.shaw
set_option maxRecDepth 100000
attribute [local simp] s_ops s_seq s_cond s_cond_t s_cond_f s_block s_exit s_ret s_skip s_then_n s_then_n' s_then_e s_then_e' s_then_r s_then_r' s_block_n s_block_r s_block_e s_post_r s_post_n s_res0 s_res1 s_res2 s_res3 s_res4 s_nil s_cons s_guard s_guard_tt s_guard_ff s_guard_tf s_guard_ft s_guard_u s_call s_kL s_put s_put0 s_set s_tmp s_const s_func s_init s_mkF s_mkF0 s_mv s_bin s_pick s_op aop oK_some oK_none bK_some bK_none b_add b_sub b_mul b_quo b_rem b_and b_or b_xor b_andNot b_shl b_shr b_eql b_neq b_lss b_leq b_gtr b_geq b_sadd b_seql b_sneq b_slss b_sleq b_sgtr b_sgeq s_draw s_stage s_stage0 s_kW s_kR s_rc0 s_rc s_rcg rK_some rK_none rG_b rG_u s_callv s_callv_f s_nextM s_postR_r s_postR_n s_resA0 s_resAt s_resAc s_resC s_tup0 s_tup1 s_tup2 s_tup3
theorem long_no {l : List (List UInt8)} (h : longV l = false) : l.flatten.length ≤ 3000 ∧ l.length ≤ 60 := by
  unfold longV at h
  simpa using h
theorem digK_keep {H H' : Heap} {b : Nat} {nm : Option Nat} {T : List UInt8} {k : Nat} (d : DigK H b nm T k) (hk : ∀ y ob, H.m y = some ob → (y = b ∨ nm = some y) → H'.m y = some ob) : DigK H' b nm T k := by
  obtain ⟨rv, hb, hr, hl⟩ := d
  refine ⟨rv, ?_, ?_, hl⟩
  · have := hk b _ (m_of_cells hb) (.inl rfl)
    unfold Heap.cellsOf
    rw [this]
  · rcases hr with q | ⟨x, o, cap, c, e, h2, h3, h4⟩
    · exact .inl q
    · refine .inr ⟨x, o, cap, c, e, h2, ?_, h4⟩
      have := hk x _ (m_of_cells h3) (.inr e)
      unfold Heap.cellsOf
      rw [this]
theorem digK_ne {H : Heap} {b : Nat} {nm : Option Nat} {T : List UInt8} {k : Nat} (d : DigK H b nm T k) : nm ≠ some b := by
  obtain ⟨rv, hb, hr, hl⟩ := d
  intro e
  exact hr.ne hb b e rfl
theorem digK_lt {H : Heap} (hc : H.Closed) {b : Nat} {nm : Option Nat} {T : List UInt8} {k : Nat} (d : DigK H b nm T k) : b < H.n ∧ ∀ y, nm = some y → y < H.n := by
  obtain ⟨rv, hb, hr, hl⟩ := d
  refine ⟨cellsOf_lt hc hb, fun y e => ?_⟩
  rcases hr with q | ⟨x, o, cap, c, e', h2, h3, h4⟩
  · rw [q.1] at e; cases e
  · rw [e'] at e; cases e
    exact cellsOf_lt hc h3
/-- a digest made behind h0 -/
structure Dl (h0 : Heap) (b : Nat) (nm : Option Nat) (T : List UInt8) (H : Heap) : Prop where
  c0 : h0.Closed
  b0 : h0.n ≤ b
  gr : Gr h0 H
  d : DigK H b nm T (T.length / 64)
  n0 : ∀ y, nm = some y → h0.n ≤ y
/-- one text more -/
theorem write1_ok {h0 : Heap} (b : Nat) (nm : Option Nat) (T s : List UInt8) (h : Heap) (hd : Dl h0 b nm T h) (hn : T.length + s.length ≤ 50000000) :
    ACalls Try.prog 64 [.pointer (some ⟨b, 0, none⟩), .slice (some ⟨h.n, 0, none⟩) 1 1] (h.push (.cells [.string (bs s)] .ex 1)) fun r h' => r = .tuple #[] ∧ ∃ nm', Dl h0 b nm' (T ++ s) h' ∧ Fr h b nm h' ∧ (nm' = nm ∨ ∃ y, nm' = some y ∧ h.n < y) := by
  have hcl := hd.gr.cl
  have hlt := digK_lt hcl hd.d
  have hc1 : (h.push (.cells [.string (bs s)] .ex 1)).Closed := closed_push hcl (fun x hx => by simp at hx; rw [hx]; exact .string)
  have e0 : ∀ y ob, h.m y = some ob → (h.push (.cells [.string (bs s)] .ex 1)).m y = some ob := fun y ob e => by rw [push_m, if_neg (by have := (hcl y ob e).1; omega)]; exact e
  have hfl : [s].flatten = s := by simp
  have w := write_ok b nm T [s] (.slice (some ⟨h.n, 0, none⟩) 1 1) (h.push (.cells [.string (bs s)] .ex 1)) (digK_keep hd.d fun y ob e _ => e0 y ob e)
    (fun H hF => by
      have := hF.2 h.n (.cells [.string (bs s)] .ex 1) (by simp [push_m]) (by omega) (fun e => by have := hlt.2 _ e; omega)
      refine .inr ⟨h.n, 0, 1, [.string (bs s)], .ex, 1, rfl, ?_, Nat.le_refl _, fun _ => by simp, fun i hi => ?_⟩
      · unfold Heap.cellsOf
        rw [this]
      · obtain rfl : i = 0 := by simp at hi; exact hi
        rfl) (by rw [hfl]; exact hn) (by simp)
  rw [hfl] at w
  refine w.mono' fun r h' hc' _ q => ?_
  obtain ⟨hr, nm', q1, q2, q3⟩ := q
  have hF : Fr h b nm h' := ⟨Nat.le_trans (Nat.le_succ _) q2.1, fun y ob e h1 h2 => q2.2 y ob (e0 y ob e) h1 h2⟩
  have q3' : nm' = nm ∨ ∃ y, nm' = some y ∧ h.n < y := by
    rcases q3 with q3 | ⟨y, h1, h2⟩
    · exact .inl q3
    · exact .inr ⟨y, h1, h2⟩
  have hle := hd.gr.n
  have hb0 := hd.b0
  refine ⟨hr, nm', ⟨hd.c0, hd.b0, ⟨Nat.le_trans hle hF.1, hc', fun y ob e => hF.2 y ob (hd.gr.m y ob e) ?_ ?_⟩, q1, ?_⟩, hF, q3'⟩
  · intro e'
    have := (hd.c0 y ob e).1
    omega
  · intro e'
    have := (hd.c0 y ob e).1
    have := hd.n0 y e'
    omega
  · intro y e'
    rcases q3' with q | ⟨z, h1, h2⟩
    · exact hd.n0 y (q ▸ e')
    · rw [h1] at e'; cases e'; omega
theorem dl_new (h0 : Heap) : ACalls Try.prog 63 [] h0 fun v h' => ∃ b, v = .pointer (some ⟨b, 0, none⟩) ∧ Dl h0 b none [] h' :=
  ACalls.closed fun hcl => (digest_new_ok h0).mono' fun v h' hc' _ ⟨b, e, q1, q2, q3⟩ => ⟨b, e, hcl, q1, ⟨q3.hi, hc', q3.sub⟩, by simpa using q2, fun y e => by cases e⟩
theorem dl_push {h0 H : Heap} {b : Nat} {nm : Option Nat} {T : List UInt8} (d : Dl h0 b nm T H) {o : AObj} (ho : o.Below (H.n + 1)) : Dl h0 b nm T (H.push o) :=
  ⟨d.c0, d.b0, d.gr.push ho, digK_keep d.d fun y ob e _ => by rw [push_m, if_neg (by have := (d.gr.cl y ob e).1; omega)]; exact e, d.n0⟩
def flen (l : List (List UInt8)) (i : Nat) : Nat := (l.take i).flatten.length
structure ZS where
  i : Nat
  H : Heap
  nm : Option Nat
set_option maxHeartbeats 1000000 in
theorem shaSums_ok (l : List (List UInt8)) (v : Value) (h : Heap) (hl : Sl enS h v l) (hs : ∀ s ∈ l, s.length ≤ 140737488351232) (hln : l.length ≤ 9223372036854775807) :
    ACalls Try.prog 15 [v] h fun v _ => v = .bool true := by
  refine acalls_of mix Try.func15 k15 n15 (by simp) fun hcl hb => ?_
  have bl := Sl.below hl hcl
  obtain ⟨ad, c, rfl⟩ := Sl.form hl
  have fil : ∀ s, afill [.string (bs [])] [(0, 1, .string (bs s))] = some [.string (bs s)] := fun _ => rfl
  simp only [c15, s_seq, s_ops]
  simp
  refine (sawake_ok _).mono ?_
  rintro _ h9 ⟨rfl, e⟩
  rw [e]
  clear e h9
  simp [aun]
  refine (long_ok l _ _ hl hs hln).mono ?_
  rintro _ h9 ⟨rfl, e⟩
  rw [e]
  clear e h9
  simp
  cases hlong : longV l with
  | true => simp
  | false =>
  obtain ⟨hl3, hl6⟩ := long_no hlong
  simp [aun]
  refine (new_ok _).mono' ?_
  rintro _ H1 hc1 - ⟨v1, v2, rfl, hH, hK, g1⟩
  have hp : aput [Value.slice none 0 0, .slice none 0 0] 0 [v1, v2] = [v1, v2] := rfl
  have hac : acut [v1, v2] 0 2 = some [v1, v2] := rfl
  have bH := Sl.below hH hc1
  have bK := Sl.below hK hc1
  have fil0 : afill [Value.slice none 0 0, .slice none 0 0] [] = some [.slice none 0 0, .slice none 0 0] := rfl
  simp [fil0, cellsOf_at, mcells, set_at, hp]
  have c2 : (H1.push (.cells [v1, v2] .ex 1)).Closed := closed_push hc1 (fun x hx => by
    simp at hx
    rcases hx with rfl | rfl
    · exact bH.mono (Nat.le_succ _)
    · exact bK.mono (Nat.le_succ _))
  have hX2 := cellsOf_new H1 [v1, v2] .ex 1
  have e2 : h.Ext (H1.push (.cells [v1, v2] .ex 1)) := Heap.Ext.push ⟨g1.hi, g1.sub⟩ hcl _
  have e12 : H1.Ext (H1.push (.cells [v1, v2] .ex 1)) := Heap.Ext.push (Heap.Ext.refl _) hc1 _
  generalize hH2 : H1.push (.cells [v1, v2] .ex 1) = H2 at *
  refine (joined_ok l _ _ (hl.keep e2.m) (by omega) (by omega)).mono ?_
  rintro _ h9 ⟨rfl, e⟩
  rw [e]
  clear e h9
  simp [hX2, apart, hac]
  refine (refSum_ok l.flatten (by omega) _ _ _ (hH.keep e12.m) (hK.keep e12.m)).mono ?_
  rintro _ h9 ⟨rfl, e⟩
  rw [e]
  clear e h9
  have hDl := shaB_len l.flatten
  have hul : (ubs (shaB l.flatten)).length = 32 := by rw [ubs_len, hDl]
  have hz := zl_len .u8 32
  have hpp : aput (zl .u8 32) 0 (ubs (shaB l.flatten)) = ubs (shaB l.flatten) := aput_all _ _ (by rw [hul, hz])
  simp [hz, cellsOf_at, mcells, set_at, hul, hpp]
  have c3 : (H2.push (.cells (ubs (shaB l.flatten)) .ex 1)).Closed := closed_push c2 ubs_bel
  have hY3 := cellsOf_new H2 (ubs (shaB l.flatten)) .ex 1
  have e23 : H2.Ext (H2.push (.cells (ubs (shaB l.flatten)) .ex 1)) := Heap.Ext.push (Heap.Ext.refl _) c2 _
  have hX3 := cellsOf_keep e23.m hX2
  have hX3n := cellsOf_lt c3 hX3
  have hY3n := cellsOf_lt c3 hY3
  have hH3 := (hH.keep e12.m).keep e23.m
  have hK3 := (hK.keep e12.m).keep e23.m
  have hl3' := (hl.keep e2.m).keep e23.m
  have g3 := (e2.trans e23)
  generalize H2.push (.cells (ubs (shaB l.flatten)) .ex 1) = H3 at *
  have bl3 := Sl.below hl3' c3
  refine (dl_new _).mono ?_
  rintro _ H4 ⟨b, rfl, hd⟩
  simp
  refine awp_loop_of (α := ZS) (fun z => z.i ≤ l.length ∧ Dl H3 b z.nm (l.take z.i).flatten z.H)
    (fun z => [(0, .slice ad l.length c), (3, .pointer (some ⟨H1.n, 0, none⟩)), (4, .string (bs l.flatten)), (5, .pointer (some ⟨H2.n, 0, none⟩)), (6, .pointer (some ⟨b, 0, none⟩)), (7, .int .i64 (flen l z.i : Nat)), (22, .slice ad l.length c), (23, .int .i64 l.length), (24, .int .i64 z.i)])
    (fun z => z.H) (fun z => l.length - z.i) ⟨0, H4, none⟩
    ⟨Nat.zero_le _, by simpa using hd⟩ ⟨by have := hd.gr.n; have := g3.n; show h.n ≤ H4.n; omega, Nat.le_refl _, fun _ _ e => e, hd.gr.cl⟩
    (by
      have q1 := hd.gr.n
      have q2 := (digK_lt hd.gr.cl hd.d).1
      simp
      exact ⟨bl3.mono q1, .ptr (by show H1.n < H4.n; omega), .string, .ptr (by show H2.n < H4.n; omega), .ptr q2, ⟨rfl, .int⟩, bl3.mono q1, .int, .int⟩) ?_
  rintro ⟨i, H, nm⟩ ⟨hi, hd⟩
  dsimp only at hi hd ⊢
  by_cases hil : i < l.length
  · have hi' : (i : Int) < (l.length : Int) := by omega
    have hsucc := flat_succ l i hil
    have htot := flat_take l (i + 1)
    have hlen1 : flen l (i + 1) = flen l i + l[i].length := by unfold flen; rw [hsucc, List.length_append]
    have htl : flen l (i + 1) = (l.take (i + 1)).flatten.length := rfl
    have htl0 : flen l i = (l.take i).flatten.length := rfl
    obtain ⟨b1, o1, cs1, m1, e1', rfl, _, gg1, gg2⟩ := Sl.at (hl3'.keep hd.gr.m) hil
    have hen : enS l[i] = .string (bs l[i]) := rfl
    simp [hi', aidx_of hil, gg1, apart, gg2, hen, fil]
    refine (write1_ok b nm _ l[i] H hd (by omega)).mono ?_
    rintro _ H5 ⟨rfl, nm5, hd5, -, -⟩
    rw [← hsucc] at hd5
    have w1 : IntKind.i64.wrap ((flen l i : Int) + (l[i].length : Int)) = (flen l (i + 1) : Int) := by rw [hlen1, IntWalk.i64_in _ (by omega)]; omega
    have e1 : IntKind.i64.wrap ((i : Int) + 1) = ((i + 1 : Nat) : Int) := by rw [IntWalk.i64_in _ (by omega)]; omega
    simp [bs_size, w1, -Int.natCast_add]
    have hd5d := hd5.d
    refine (dlen_ok b nm5 _ _ _ hd5.d).mono ?_
    rintro _ h9 ⟨rfl, e⟩
    rw [e]
    clear e h9
    rw [← htl]
    simp
    refine (dsum_ok b nm5 _ _ hd5.d (by omega)).mono ?_
    rintro _ h9 ⟨rfl, e⟩
    rw [e]
    clear e h9
    simp
    refine (dsum_ok b nm5 _ _ hd5.d (by omega)).mono ?_
    rintro _ h9 ⟨rfl, e⟩
    rw [e]
    clear e h9
    have heq := eq_32 (shaB_len (l.take (i + 1)).flatten) (shaB_len (l.take (i + 1)).flatten)
    simp [heq, e1, -Int.natCast_add]
    have q1 := hd5.gr.n
    have q2 := (digK_lt hd5.gr.cl hd5.d).1
    exact ⟨⟨i + 1, H5, nm5⟩, by show l.length - (i + 1) < l.length - i; omega, ⟨by show i + 1 ≤ l.length; omega, hd5⟩, ⟨by have := g3.n; show h.n ≤ H5.n; omega, Nat.le_refl _, fun _ _ e => e, hd5.gr.cl⟩,
      bl3.mono q1, .ptr (by show H1.n < H5.n; omega), .string, .ptr (by show H2.n < H5.n; omega), .ptr q2, ⟨rfl, .int⟩, bl3.mono q1, .int, ⟨rfl, .int⟩⟩
  · have hie : i = l.length := by omega
    subst hie
    rw [List.take_of_length_le (Nat.le_refl _)] at hd
    have hYH := cellsOf_keep hd.gr.m hY3
    have hXH := cellsOf_keep hd.gr.m hX3
    have hcD := acut_full hul
    have heqD := eq_32 hDl hDl
    simp [hYH, apart, hcD]
    refine (sum_ok l _ _ (hl3'.keep hd.gr.m) (by omega) (by omega)).mono ?_
    rintro _ h9 ⟨rfl, e⟩
    rw [e]
    clear e h9
    simp [hYH, apart, hcD, heqD, fil, bs_lit]
    have dp := dl_push hd (o := .cells [.string (bs l.flatten)] .ex 1) (fun x hx => by simp at hx; rw [hx]; exact .string)
    have hsl := sl_str H l.flatten
    have hYp := cellsOf_keep dp.gr.m hY3
    generalize H.push (.cells [.string (bs l.flatten)] .ex 1) = Hp at *
    simp [hYp, apart, hcD]
    refine (sum_ok [l.flatten] _ _ hsl (by simpa using (by omega : l.flatten.length ≤ 50000000)) (by simp)).mono ?_
    rintro _ h9 ⟨rfl, e⟩
    rw [e]
    clear e h9
    have hfl1 : [l.flatten].flatten = l.flatten := by simp
    rw [hfl1]
    simp [hYp, apart, hcD, heqD]
    refine (dsum_ok b nm _ _ dp.d (by omega)).mono ?_
    rintro _ h9 ⟨rfl, e⟩
    rw [e]
    clear e h9
    simp [hYp, apart, hcD, heqD]
    refine (reset_ok b nm _ _ _ dp.d).mono' ?_
    rintro _ H7 hc7 - ⟨rfl, d7, n7, k7⟩
    have m7 : ∀ y ob, H3.m y = some ob → H7.m y = some ob := fun y ob e => k7 y ob (dp.gr.m y ob e) (by have := (c3 y ob e).1; have := dp.b0; omega)
    have hX7 := cellsOf_keep m7 hX3
    simp
    refine (dlen_ok b none _ _ _ d7).mono ?_
    rintro _ h9 ⟨rfl, e⟩
    rw [e]
    clear e h9
    simp [hX7, apart, hac]
    refine (dsum_ok b none [] _ (by simpa using d7) (by simp)).mono ?_
    rintro _ h9 ⟨rfl, e⟩
    rw [e]
    clear e h9
    simp [hX7, apart, hac, bs_lit]
    refine (refSum_ok [] (by simp) _ _ _ (hH3.keep m7) (hK3.keep m7)).mono ?_
    rintro _ h9 ⟨rfl, e⟩
    rw [e]
    clear e h9
    have heq0 := eq_32 (shaB_len []) (shaB_len [])
    simp [heq0]
end Go.Proofs.Ythhhcpbkedikfaa.shas
