/-
  Contracts.
-/
import Derived.Test.YtpcnpnddkgdaeaaDoorLins
import Derived.Test.YtpcnpnddkgdaeaaDoorVers
import Derived.Test.YtpcnpnddkgdaeaaDoorStr
import Derived.Test.YtpcnpnddkgdaeaaDoorAbEnter
import Derived.Test.YtpcnpnddkgdaeaaDoorAbStep
import Derived.Test.YtpcnpnddkgdaeaaDoorProg
import Derived.IntWalk
import Derived.KernelRfl
set_option linter.unusedSimpArgs false
set_option linter.unusedVariables false
set_option linter.unusedSectionVars false
namespace Go.Proofs.YtpcnpnddkgdaeaaDoor.lint
open Go Go.Ab Go.Proofs Go.RowKit Go.Proofs.YtpcnpnddkgdaeaaDoor.str Go.Proofs.YtpcnpnddkgdaeaaDoor.vers Go.Proofs.YtpcnpnddkgdaeaaDoor.lins
variable [Inhabited TabBox]
variable [Nonempty GF]
set_option maxRecDepth 100000
attribute [local simp] s_ops s_seq s_cond s_cond_t s_cond_f s_block s_exit s_ret s_skip s_then_n s_then_n' s_then_e s_then_e' s_then_r s_then_r' s_block_n s_block_r s_block_e s_post_r s_post_n s_res0 s_res1 s_res2 s_res3 s_res4 s_nil s_cons s_guard s_guard_tt s_guard_ff s_guard_tf s_guard_ft s_guard_u s_call s_kL s_put s_put0 s_set s_tmp s_const s_func s_glob s_init s_mkF s_mkF0 s_mv s_bin s_pick s_op aop oK_some oK_none bK_some bK_none b_add b_sub b_mul b_quo b_rem b_and b_or b_xor b_andNot b_shl b_shr b_eql b_neq b_lss b_leq b_gtr b_geq b_sadd b_seql b_sneq b_slss b_sleq b_sgtr b_sgeq s_draw s_drawT s_tK s_tT s_tF s_tB s_tR s_stage s_stage0 s_kW s_kR s_rc0 s_rc s_rcg rK_some rK_none rG_b rG_u s_callv s_callv_f s_nextM s_postR_r s_postR_n s_resA0 s_resAt s_resAc s_resC s_tup0 s_tup1 s_tup2 s_tup3
def c35_0 : AC := .seq (.seq (.ops [⟨ some 11, none, .mv (.tmp 0) ⟩, ⟨ some 12, none, .bin .neq (.tmp 11) (.const (.string ⟨ ⟨[] ⟩ ⟩)) ⟩]) (.cond (.tmp 12) .skip (.exit 0))) (.seq (.block 1 (.seq (.ops [⟨ some 16, none, .mv (.tmp 0) ⟩, ⟨ some 17, none, .call 66 [.tmp 16, .const (.string ⟨ ⟨[10] ⟩ ⟩)] ⟩, ⟨ some 15, none, .mv (.tmp 17) ⟩, ⟨ some 18, none, .extr (.tmp 15) 0 ⟩, ⟨ some 19, none, .extr (.tmp 15) 1 ⟩, ⟨ some 20, none, .extr (.tmp 15) 2 ⟩, ⟨ some 6, none, .mv (.tmp 18) ⟩, ⟨ some 7, none, .mv (.tmp 19) ⟩, ⟨ some 8, none, .mv (.tmp 20) ⟩]) (.seq (.ops [⟨ some 22, none, .mv (.tmp 6) ⟩, ⟨ some 23, none, .call 32 [.tmp 22] ⟩, ⟨ some 21, none, .mv (.tmp 23) ⟩, ⟨ some 24, none, .extr (.tmp 21) 0 ⟩, ⟨ some 25, none, .extr (.tmp 21) 1 ⟩, ⟨ some 9, none, .alloc [.int .i64 0, .int .i64 0, .string ⟨ ⟨[] ⟩ ⟩, .int .i64 0, .int .u8 0] ⟩, ⟨ none, none, .store 5 (.tmp 9) (.tmp 24) ⟩, ⟨ some 10, none, .mv (.tmp 25) ⟩]) (.seq (.seq (.ops [⟨ some 26, none, .mv (.tmp 10) ⟩, ⟨ some 27, none, .bin .neq (.tmp 26) (.const (.int .i64 0)) ⟩]) (.cond (.tmp 27) (.seq (.ops [⟨ some 28, none, .mv (.tmp 4) ⟩, ⟨ some 29, none, .mv (.tmp 5) ⟩, ⟨ some 2, none, .mv (.tmp 28) ⟩, ⟨ some 3, none, .mv (.tmp 29) ⟩]) .ret) .skip)) (.seq (.ops [⟨ some 30, none, .mv (.tmp 4) ⟩, ⟨ some 31, none, .load (some 5) (.tmp 9) ⟩, ⟨ some 32, none, .buildS 1 [.int .i64 0, .int .i64 0, .string ⟨ ⟨[] ⟩ ⟩, .int .i64 0, .int .u8 0] [(0, 5, .tmp 31)] ⟩, ⟨ some 33, none, .app 5 48 54 (.tmp 30) (.tmp 32) ⟩, ⟨ some 4, none, .mv (.tmp 33) ⟩]) (.ops [⟨ some 34, none, .mv (.tmp 7) ⟩, ⟨ some 0, none, .mv (.tmp 34) ⟩])))))) (.ops [⟨ some 13, none, .mv (.tmp 5) ⟩, ⟨ some 14, none, .bin .add (.tmp 13) (.const (.int .i64 1)) ⟩, ⟨ some 5, none, .mv (.tmp 14) ⟩]))
def c35 : AC := .seq (.ops [⟨ some 2, none, .mv (.const (.slice none 0 0)) ⟩, ⟨ some 3, none, .mv (.const (.int .i64 0)) ⟩]) (.seq (.ops [⟨ some 4, none, .mv (.const (.slice none 0 0)) ⟩]) (.seq (.seq (.ops [⟨ some 5, none, .mv (.const (.int .i64 1)) ⟩]) (.block 0 (.loop c35_0))) (.seq (.ops [⟨ some 35, none, .mv (.tmp 4) ⟩, ⟨ some 2, none, .mv (.tmp 35) ⟩, ⟨ some 3, none, .mv (.const (.int .i64 0)) ⟩]) .ret)))
theorem k35 : compF Tryd.prog Tryd.f35 = some (c35, [2, 3]) := by kernel_rfl
theorem n35 : Tryd.f35.ntmps = 36 := by kernel_rfl
/-! a text's events -/
def trimL (L : List (List UInt8)) : List (List UInt8) := if L.getLast? = some [] then L.dropLast else L
def linesL (s : List UInt8) : List (List UInt8) := trimL (splitB 10 s)
theorem lines_nil : linesL [] = [] := rfl
theorem trimL_cons (a : List UInt8) {M : List (List UInt8)} (hM : M ≠ []) : trimL (a :: M) = a :: trimL M := by
  unfold trimL
  cases M with
  | nil => exact absurd rfl hM
  | cons b r =>
    rw [List.getLast?_cons_cons, List.dropLast_cons_cons]
    split <;> rfl
theorem lines_cut {s : List UInt8} (hs : s ≠ []) : linesL s = (cutB 10 s).1 :: linesL (cutB 10 s).2.1 := by
  unfold cutB
  cases hx : idx1 10 s with
  | none =>
    have := split_none (idx1_none hx)
    unfold linesL
    rw [this]
    have h1 : trimL [s] = [s] := by unfold trimL; rw [if_neg (by simpa using hs)]
    rw [h1]; rfl
  | some i =>
    obtain ⟨a, b, rfl, hca, rfl⟩ := idx1_some hx
    have h1 : (a ++ 10 :: b).take a.length = a := List.take_left
    have h2 : (a ++ 10 :: b).drop (a.length + 1) = b := by rw [← List.drop_drop]; simp
    dsimp only
    rw [h1, h2]
    unfold linesL
    rw [split_at hca, trimL_cons a (split_ne 10 b)]
theorem cutB_len (c : UInt8) {s : List UInt8} (hs : s ≠ []) : (cutB c s).1.length ≤ s.length ∧ (cutB c s).2.1.length < s.length := by
  have h0 : 0 < s.length := by cases s with | nil => exact absurd rfl hs | cons a b => simp
  unfold cutB
  cases hx : idx1 c s with
  | none => simp; omega
  | some i =>
    dsimp only
    rw [List.length_take, List.length_drop]; omega
def RdL (L : List (List UInt8)) (E : List Ev) (bad : Nat) : Prop := (∀ e ∈ E, RightE e) ∧ ((L = E.map lineB ∧ bad = 0) ∨ ∃ l L', L = E.map lineB ++ l :: L' ∧ (∀ e, RightE e → l ≠ lineB e) ∧ bad = E.length + 1)
def SlE (h : Heap) (v : Value) (E : List Ev) : Prop := (v = .slice none 0 0 ∧ E = []) ∨ ∃ x md e, v = .slice (some ⟨x, 0, none⟩) E.length E.length ∧ h.cellsOf x = some (E.flatMap ev, md, e)
def RdsV (h : Heap) (s : List UInt8) (v : Value) (h' : Heap) : Prop := h.Ext h' ∧ ∃ sl E bad, v = .tuple #[sl, .int .i64 (bad : Nat)] ∧ RdL (linesL s) E bad ∧ SlE h' sl E
theorem lat_sle {H : Heap} {nm : Option Nat} {v : Value} {E : List Ev} (q : LAt H 5 nm v E.length (E.flatMap ev)) : SlE H v E := by
  rcases q with ⟨_, rfl, h1, h2⟩ | ⟨x, md, e, _, rfl, h3, h4, _⟩
  · exact .inl ⟨rfl, List.length_eq_zero_iff.1 h1⟩
  · exact .inr ⟨x, md, e, rfl, h3⟩
structure RdS where
  E : List Ev
  r : List UInt8
  nm : Option Nat
  v : Value
  H : Heap
theorem lRead_ok (s : List UInt8) (hs : s.length ≤ 10000) (h : Heap) : ACalls Tryd.prog 35 [.string (bs s)] h fun v h' => RdsV h s v h' := by
  refine acalls_of mix Tryd.func35 k35 n35 (by simp) fun hcl hb => ?_
  have zz : ([.int .i64 0, .int .i64 0, .string (bs []), .int .i64 0, .int .u8 0] : List Value) = ev (zE 0) := rfl
  have hl5 : ∀ e, (ev e).length = 5 := fun _ => rfl
  have hpe : ∀ e e2, aput (ev e) 0 (ev e2) = ev e2 := fun _ _ => rfl
  simp only [c35, s_seq, s_ops]
  simp
  refine awp_loop_of (α := RdS) (fun z => linesL s = z.E.map lineB ++ linesL z.r ∧ (∀ e ∈ z.E, RightE e) ∧ z.E.length + z.r.length ≤ s.length ∧ LAt z.H 5 z.nm z.v z.E.length (z.E.flatMap ev) ∧ Gr h z.H ∧ ∀ x, z.nm = some x → h.n ≤ x)
    (fun z => [(0, .string (bs z.r)), (4, z.v), (5, .int .i64 ((z.E.length + 1 : Nat) : Int))]) (fun z => z.H) (fun z => z.r.length) ⟨[], s, none, .slice none 0 0, h⟩
    ⟨rfl, fun e he => (by cases he), by simp, .inl ⟨rfl, rfl, rfl, rfl⟩, ⟨Nat.le_refl _, hcl, fun _ _ e => e⟩, fun x e => by cases e⟩ (Heap.Sub.refl hcl) (by simp; exact ⟨.string, .snil, .int⟩) ?_
  rintro ⟨E, r, nm, v, H⟩ ⟨hL, hE, hlen, hl, hg, hnm⟩
  dsimp only at hL hE hlen hl hg hnm ⊢
  by_cases hr : r = []
  · subst hr
    rw [lines_nil, List.append_nil] at hL
    simp [c35_0, bs_lit]
    exact ⟨⟨hg.n, hg.m⟩, v, E, 0, rfl, ⟨hE, .inl ⟨hL, rfl⟩⟩, lat_sle hl⟩
  · have hne : ¬ bs r = bs [] := fun q => hr (bs_inj.1 q)
    have hcut := lines_cut hr
    obtain ⟨hc1, hc2⟩ := cutB_len 10 hr
    simp [c35_0, bs_lit, hne, -Int.natCast_add]
    refine (cut1_ok r 10 H (by omega)).mono ?_
    rintro _ h9 ⟨rfl, e'⟩
    rw [e']; clear e' h9
    generalize (cutB 10 r).1 = l at *
    generalize (cutB 10 r).2.1 = r2 at *
    have hsl : sv l = .string (bs l) := rfl
    simp [hsl, -Int.natCast_add]
    refine (lParse_ok l (by omega) H).mono ?_
    rintro v1 h9 ⟨hp, e'⟩
    rw [e']; clear e' h9
    rw [hcut] at hL
    by_cases hx : ∃ e, RightE e ∧ l = lineB e
    · obtain ⟨e, h1, h2⟩ := hx
      rw [hp.1 e h1 h2]
      have f3 := cellsOf_new H (ev e) .ex 1
      have hcH : (H.push (.cells (ev e) .ex 1)).Closed := closed_push hg.cl ev_bel
      have hcH2 : ((H.push (.cells (ev e) .ex 1)).push (.cells (ev e) .ex 1)).Closed := closed_push hcH ev_bel
      have l1 : LAt ((H.push (.cells (ev e) .ex 1)).push (.cells (ev e) .ex 1)) 5 nm v E.length (E.flatMap ev) := hl.keep fun y e => by
        subst e
        have := hl.lt hg.cl
        rw [push_m, if_neg (by show ¬ y = H.n + 1; omega), push_m, if_neg (by omega)]
      obtain ⟨a, rfl, v2, H2, happ, l2, keep2, n3, c3⟩ := lat_app (t := 54) (bytes := 48) (k := 1) (new := ev e) hcH2 l1 Nat.one_pos rfl ev_bel (by omega)
      have fil : afill (ev (zE 0)) [(0, 5, .agg (ev e).toArray)] = some (ev e) := rfl
      have hfst : afirst ((H.push (.cells (ev e) .ex 1)).push (.cells (ev e) .ex 1)) 5 1 (.slice (some ⟨H.n + 1, 0, none⟩) 1 1) = some (ev e) := by
        have := cellsOf_new (H.push (.cells (ev e) .ex 1)) (ev e) .ex 1
        rw [push_n] at this
        simp only [afirst, this, if_true]
        rfl
      have w4 : IntKind.i64.wrap (((E.length + 1 : Nat) : Int) + 1) = ((E.length + 1 + 1 : Nat) : Int) := w1 _ (by omega)
      simp [zz, bs_lit, cellsOf_new, mc_ev, hl5, hpe, set_push, f3, apart, acut_ev, fil, alen, hfst, happ, w4, -Int.natCast_add]
      have hEl : (E ++ [e]).length = E.length + 1 := by simp
      have n3' : H2.n = H.n + 3 := n3
      refine ⟨⟨E ++ [e], r2, _, v2, H2⟩, hc2, ⟨by show linesL s = (E ++ [e]).map lineB ++ linesL r2; rw [hL, h2]; simp, fun x hx => ?_, by show (E ++ [e]).length + r2.length ≤ s.length; rw [hEl]; omega, by show LAt H2 5 _ v2 (E ++ [e]).length ((E ++ [e]).flatMap ev); rw [hEl, List.flatMap_append]; simpa using l2, ⟨by have := hg.n; show h.n ≤ H2.n; omega, c3, fun yy ob q => keep2 yy ob (by
          have h3 := hg.m yy ob q
          have := (hg.cl yy ob h3).1
          rw [push_m, if_neg (by show ¬ yy = H.n + 1; omega), push_m, if_neg (by omega)]; exact h3) (fun q2 => by have := hnm yy q2; have := (hcl yy ob q).1; omega)⟩, fun xx q => ?_⟩, ⟨by have := hg.n; show h.n ≤ H2.n; omega, Nat.le_refl _, fun _ _ e => e, c3⟩, ⟨rfl, .string⟩, ⟨rfl, l2.below c3⟩, ?_, .int⟩
      · rcases List.mem_append.1 hx with q | q
        · exact hE x q
        · rw [List.mem_singleton.1 q]; exact h1
      · have := hg.n
        have q' : some ((H.push (.cells (ev e) .ex 1)).push (.cells (ev e) .ex 1)).n = some xx := q
        simp at q'
        omega
      · show _ = (((E ++ [e]).length + 1 : Nat) : Int)
        rw [hEl]
    · have hn : ∀ e, RightE e → l ≠ lineB e := fun e h1 h2 => hx ⟨e, h1, h2⟩
      rw [hp.2 hn]
      simp [zz, bs_lit, cellsOf_new, mc_ev, hl5, hpe, set_push, -Int.natCast_add]
      have hg2 : Gr h (H.push (.cells (ev (zE 0)) .ex 1)) := hg.push ev_bel
      have l1 : LAt (H.push (.cells (ev (zE 0)) .ex 1)) 5 nm v E.length (E.flatMap ev) := hl.keep fun y e => by
        subst e
        have := hl.lt hg.cl
        rw [push_m, if_neg (by omega)]
      exact ⟨⟨hg2.n, hg2.m⟩, v, E, E.length + 1, rfl, ⟨hE, .inr ⟨l, _, hL, hn, rfl⟩⟩, lat_sle l1⟩
def c8_0 : AC := .seq (.seq (.ops [⟨ some 33, none, .mv (.tmp 6) ⟩, ⟨ some 34, none, .mv (.tmp 5) ⟩, ⟨ some 35, none, .lenS false (.tmp 34) ⟩, ⟨ some 36, none, .bin .lss (.tmp 33) (.tmp 35) ⟩]) (.cond (.tmp 36) .skip (.exit 0))) (.block 1 (.seq (.ops [⟨ some 38, none, .mv (.tmp 5) ⟩, ⟨ some 39, none, .mv (.tmp 6) ⟩, ⟨ some 40, none, .iAddrS 1 (.tmp 38) (.tmp 39) ⟩, ⟨ some 41, none, .load none (.tmp 40) ⟩, ⟨ some 42, none, .call 34 [.tmp 41] ⟩, ⟨ some 37, none, .mv (.tmp 42) ⟩, ⟨ some 43, none, .extr (.tmp 37) 0 ⟩, ⟨ some 44, none, .extr (.tmp 37) 1 ⟩, ⟨ some 7, none, .alloc [.int .i64 0, .int .i64 0, .int .i64 0, .int .i64 0, .string ⟨ ⟨[] ⟩ ⟩] ⟩, ⟨ none, none, .store 5 (.tmp 7) (.tmp 43) ⟩, ⟨ some 8, none, .mv (.tmp 44) ⟩]) (.seq (.seq (.ops [⟨ some 45, none, .mv (.tmp 8) ⟩, ⟨ some 46, none, .un .not (.tmp 45) ⟩]) (.cond (.tmp 46) (.exit 0) .skip)) (.seq (.seq (.draw [([⟨ some 47, none, .mv (.tmp 6) ⟩, ⟨ some 48, none, .mv (.tmp 3) ⟩, ⟨ some 49, none, .lenS false (.tmp 48) ⟩, ⟨ some 50, none, .bin .geq (.tmp 47) (.tmp 49) ⟩, ⟨ some 51, none, .mv (.tmp 50) ⟩, ⟨ some 52, some (51, false), .mv (.tmp 3) ⟩, ⟨ some 53, some (51, false), .mv (.tmp 6) ⟩, ⟨ some 54, some (51, false), .iAddrS 5 (.tmp 52) (.tmp 53) ⟩, ⟨ some 55, some (51, false), .load (some 5) (.tmp 54) ⟩, ⟨ some 57, some (51, false), .load (some 5) (.tmp 7) ⟩], [⟨ some 56, some (51, false), .call 29 [.tmp 55] ⟩], [⟨ some 57, some (51, false), .load (some 5) (.tmp 7) ⟩]), ([⟨ some 58, some (51, false), .eqa true [.i, .i, .i, .i, .s] (.tmp 56) (.tmp 57) ⟩, ⟨ some 59, none, .pick (.tmp 51) (.const (.bool true)) (.tmp 58) ⟩], [], [])]) (.cond (.tmp 59) (.seq (.ops [⟨ some 2, none, .mv (.const (.bool false)) ⟩]) .ret) .skip)) (.ops [⟨ some 60, none, .mv (.tmp 6) ⟩, ⟨ some 61, none, .bin .add (.tmp 60) (.const (.int .i64 1)) ⟩, ⟨ some 6, none, .mv (.tmp 61) ⟩])))))
def c8 : AC := .seq (.ops [⟨ some 2, none, .mv (.const (.bool false)) ⟩]) (.seq (.seq (.ops [⟨ some 9, none, .call 27 [] ⟩, ⟨ some 10, none, .un .not (.tmp 9) ⟩]) (.cond (.tmp 10) (.seq (.ops [⟨ some 2, none, .mv (.const (.bool false)) ⟩]) .ret) .skip)) (.seq (.seq (.ops [⟨ some 11, none, .mv (.tmp 0) ⟩, ⟨ some 12, none, .lenS true (.tmp 11) ⟩, ⟨ some 13, none, .bin .gtr (.tmp 12) (.const (.int .i64 2000)) ⟩]) (.cond (.tmp 13) (.seq (.ops [⟨ some 2, none, .mv (.const (.bool true)) ⟩]) .ret) .skip)) (.seq (.ops [⟨ some 15, none, .mv (.tmp 0) ⟩, ⟨ some 16, none, .call 35 [.tmp 15] ⟩, ⟨ some 14, none, .mv (.tmp 16) ⟩, ⟨ some 17, none, .extr (.tmp 14) 0 ⟩, ⟨ some 18, none, .extr (.tmp 14) 1 ⟩, ⟨ some 3, none, .mv (.tmp 17) ⟩, ⟨ some 4, none, .mv (.tmp 18) ⟩]) (.seq (.ops [⟨ some 19, none, .mv (.tmp 0) ⟩, ⟨ some 20, none, .call 36 [.tmp 19, .const (.string ⟨ ⟨[10] ⟩ ⟩)] ⟩, ⟨ some 5, none, .mv (.tmp 20) ⟩]) (.seq (.seq (.ops [⟨ some 21, none, .mv (.tmp 5) ⟩, ⟨ some 22, none, .mv (.tmp 5) ⟩, ⟨ some 23, none, .lenS false (.tmp 22) ⟩, ⟨ some 24, none, .bin .sub (.tmp 23) (.const (.int .i64 1)) ⟩, ⟨ some 25, none, .iAddrS 1 (.tmp 21) (.tmp 24) ⟩, ⟨ some 26, none, .load none (.tmp 25) ⟩, ⟨ some 27, none, .bin .eql (.tmp 26) (.const (.string ⟨ ⟨[] ⟩ ⟩)) ⟩]) (.cond (.tmp 27) (.ops [⟨ some 28, none, .mv (.tmp 5) ⟩, ⟨ some 29, none, .mv (.tmp 5) ⟩, ⟨ some 30, none, .lenS false (.tmp 29) ⟩, ⟨ some 31, none, .bin .sub (.tmp 30) (.const (.int .i64 1)) ⟩, ⟨ some 32, none, .slV 1 (.tmp 28) none (some (.tmp 31)) none ⟩, ⟨ some 5, none, .mv (.tmp 32) ⟩]) .skip)) (.seq (.ops [⟨ some 6, none, .mv (.const (.int .i64 0)) ⟩]) (.seq (.block 0 (.loop c8_0)) (.seq (.ops [⟨ some 62, none, .mv (.tmp 3) ⟩, ⟨ some 63, none, .lenS false (.tmp 62) ⟩, ⟨ some 64, none, .mv (.tmp 6) ⟩, ⟨ some 65, none, .bin .eql (.tmp 63) (.tmp 64) ⟩, ⟨ some 66, none, .mv (.tmp 65) ⟩, ⟨ some 67, some (66, true), .mv (.tmp 4) ⟩, ⟨ some 68, some (66, true), .bin .eql (.tmp 67) (.const (.int .i64 0)) ⟩, ⟨ some 69, some (66, true), .mv (.tmp 6) ⟩, ⟨ some 70, some (66, true), .mv (.tmp 5) ⟩, ⟨ some 71, some (66, true), .lenS false (.tmp 70) ⟩, ⟨ some 72, some (66, true), .bin .eql (.tmp 69) (.tmp 71) ⟩, ⟨ some 73, some (66, true), .eqv false .bool (.tmp 68) (.tmp 72) ⟩, ⟨ some 74, none, .pick (.tmp 66) (.tmp 73) (.const (.bool false)) ⟩, ⟨ some 75, none, .mv (.tmp 74) ⟩, ⟨ some 76, some (75, true), .mv (.tmp 4) ⟩, ⟨ some 77, some (75, true), .bin .eql (.tmp 76) (.const (.int .i64 0)) ⟩, ⟨ some 78, some (75, true), .mv (.tmp 77) ⟩, ⟨ some 79, some (78, false), .mv (.tmp 4) ⟩, ⟨ some 80, some (78, false), .mv (.tmp 6) ⟩, ⟨ some 81, some (78, false), .bin .add (.tmp 80) (.const (.int .i64 1)) ⟩, ⟨ some 82, some (78, false), .bin .eql (.tmp 79) (.tmp 81) ⟩, ⟨ some 83, some (75, true), .pick (.tmp 78) (.const (.bool true)) (.tmp 82) ⟩, ⟨ some 84, none, .pick (.tmp 75) (.tmp 83) (.const (.bool false)) ⟩, ⟨ some 2, none, .mv (.tmp 84) ⟩]) .ret))))))))
theorem k8 : compF Tryd.prog Tryd.f8 = some (c8, [2]) := by kernel_rfl
theorem n8 : Tryd.f8.ntmps = 85 := by kernel_rfl
theorem line_inj {e e' : Ev} (h : RightE e) (h' : RightE e') (q : lineB e = lineB e') : e = e' := by
  have h1 := line_split e
  rw [q, line_split e'] at h1
  simp only [List.cons.injEq] at h1
  have hk := nmB_inj h'.cl.k h.cl.k h1.1
  have f1 := fe_right h
  have f2 := fe_right h'
  rw [h1.1, h1.2, hk] at f2
  exact f1.symm.trans f2
theorem trim_get (L : List (List UInt8)) : (trimL L).length = (if L.getLast? = some [] then L.length - 1 else L.length) ∧ ∀ i (hi : i < (trimL L).length), L[i]? = some (trimL L)[i] := by
  unfold trimL
  split
  · refine ⟨List.length_dropLast, fun i hi => ?_⟩
    rw [List.getElem_dropLast, List.getElem?_eq_getElem]
  · exact ⟨rfl, fun i hi => List.getElem?_eq_getElem hi⟩
theorem flat_cut : ∀ (E : List Ev) (i : Nat) (hi : i < E.length), acut (E.flatMap ev) (i * 5) 5 = some (ev E[i])
  | e :: E, 0, _ => by
    unfold acut
    have h5 : (ev e).length = 5 := rfl
    rw [List.flatMap_cons, if_pos (by rw [List.length_append, h5]; omega), Nat.zero_mul, List.drop_zero, List.take_append_of_le_length (by rw [h5]; omega), List.take_of_length_le (by rw [h5]; omega)]
    rfl
  | e :: E, i + 1, hi => by
    have ih := flat_cut E i (by simpa using hi)
    unfold acut at ih ⊢
    have h5 : (ev e).length = 5 := rfl
    split at ih
    case isFalse => cases ih
    rename_i hle
    rw [List.flatMap_cons, if_pos (by rw [List.length_append, h5]; omega)]
    have : (i + 1) * 5 = (ev e).length + i * 5 := by rw [h5]; omega
    rw [this, ← List.drop_drop, List.drop_left]
    simpa using ih
theorem linesRead_law (s : List UInt8) (h : Heap) :
    ACalls Tryd.prog 8 [.string (bs s)] h fun v h' => v = .bool true ∧ h' = h := by
  refine ACalls.same .bool (acalls_of mix Tryd.func8 k8 n8 (by simp) fun hcl hb => ?_)
  have zzr : ([.int .i64 0, .int .i64 0, .int .i64 0, .int .i64 0, .string (bs [])] : List Value) = rv (zE 0) := rfl
  have hl6 : ∀ e, (rv e).length = 5 := fun _ => rfl
  have hpr : ∀ e e2, aput (rv e) 0 (rv e2) = rv e2 := fun _ _ => rfl
  simp only [c8, s_seq, s_ops]
  simp
  refine (awake28_ok h).mono ?_
  rintro _ h9 ⟨rfl, e'⟩
  rw [e']; clear e' h9
  by_cases hs : 2000 < s.length
  · have hs' : (2000 : Int) < (s.length : Int) := by omega
    simp [aun, bs_size, hs, hs']
    exact Heap.Ext.refl h
  · have hs' : ¬ (2000 : Int) < (s.length : Int) := by omega
    simp [aun, bs_size, hs, hs']
    refine (lRead_ok s (by omega) h).mono' ?_
    rintro _ H1 c1 _ ⟨e1, sl, E, bad, rfl, hRd, hSl⟩
    obtain ⟨sa, sc, rfl⟩ : ∃ a c, sl = .slice a E.length c := by
      rcases hSl with ⟨rfl, rfl⟩ | ⟨x, md, e, rfl, _⟩
      · exact ⟨_, _, rfl⟩
      · exact ⟨_, _, rfl⟩
    have hget : ∀ i (hi : i < E.length), ∃ x md ez, sa = some ⟨x, 0, none⟩ ∧ H1.cellsOf x = some (E.flatMap ev, md, ez) := fun i hi => by
      rcases hSl with ⟨_, rfl⟩ | ⟨x, md, e, h1, h2⟩
      · simp at hi
      · cases h1; exact ⟨x, md, e, rfl, h2⟩
    have hsb : VBelow H1.n (.slice sa E.length sc) := by
      rcases hSl with ⟨h1, _⟩ | ⟨x, md, e, h1, h2⟩
      · rw [h1]; exact .snil
      · rw [h1]; exact .slice (cellsOf_lt c1 h2)
    simp [bs_lit]
    refine (splitS_ok s 10 H1 (by omega)).mono ?_
    rintro _ h9 ⟨rfl, e⟩
    rw [e]; clear e h9
    have hsl := split_len 10 s
    have hML := List.count_le_length (a := (10 : UInt8)) (l := s)
    generalize hM : s.count 10 = M at *
    have hf1 := cellsOf_new H1 ((splitB 10 s).map sv) .ex 1
    have hcl1 : (H1.push (.cells ((splitB 10 s).map sv) .ex 1)).Closed := closed_push c1 fun x hx => by obtain ⟨y, _, rfl⟩ := List.mem_map.1 hx; exact .string
    have e2 := e1.push hcl (.cells ((splitB 10 s).map sv) .ex 1)
    have n2 : (H1.push (.cells ((splitB 10 s).map sv) .ex 1)).n = H1.n + 1 := rfl
    have hkeep : ∀ x md ez, H1.cellsOf x = some (E.flatMap ev, md, ez) → (H1.push (.cells ((splitB 10 s).map sv) .ex 1)).cellsOf x = some (E.flatMap ev, md, ez) := fun x md ez q => by
      have := cellsOf_lt c1 q
      rw [cellsOf_ne (by omega)]; exact q
    have hspl := split_le 10 s
    have w5 : IntKind.i64.wrap (M : Int) = (M : Int) := i64w M (by omega)
    have w6' : IntKind.i64.wrap (((M + 1 : Nat) : Int) - 1) = (M : Int) := by rw [Int.natCast_add]; show IntKind.i64.wrap ((M : Int) + 1 - 1) = _; rw [Int.add_sub_cancel]; exact w5
    have w6 : IntKind.i64.wrap ((M : Int) + 1 - 1) = (M : Int) := by rw [Int.add_sub_cancel]; exact w5
    have iM : aidx (.int .i64 (M : Int)) (M + 1) = some M := aidx_of (by omega)
    have hlast : ∃ l, ((splitB 10 s).map sv)[M]? = some (.string (bs l)) ∧ (splitB 10 s).getLast? = some l := by
      have hM' : M < (splitB 10 s).length := by omega
      refine ⟨(splitB 10 s)[M], ?_, ?_⟩
      · rw [List.getElem?_map, List.getElem?_eq_getElem hM']; rfl
      · rw [List.getLast?_eq_getElem?, show (splitB 10 s).length - 1 = M by omega, List.getElem?_eq_getElem hM']
    obtain ⟨l, hl1, hl2⟩ := hlast
    have b1 : abounds (M + 1) (M + 1) none (some (.int .i64 (M : Int))) none = some (0, M, M + 1) := abounds_hi (by omega)
    have hLdef : linesL s = trimL (splitB 10 s) := rfl
    generalize hLL : splitB 10 s = L at *
    generalize hH2 : H1.push (.cells (L.map sv) .ex 1) = H2 at *
    obtain ⟨ht1, ht2⟩ := trim_get L
    rw [← hLdef] at ht1 ht2
    rw [hl2] at ht1
    simp [hf1, w6, w6', iM, hl1, apart, -Int.natCast_add]
    refine cond_join (fun f H => f 3 = .slice sa E.length sc ∧ f 4 = .int .i64 (bad : Int) ∧ f 5 = .slice (some ⟨H1.n, 0, none⟩) (linesL s).length (M + 1) ∧ H = H2) ?_ ?_ ?_
    · intro hb1
      have hll : l = [] := by
        have := of_decide_eq_true hb1
        exact bs_inj.1 this
      rw [if_pos (by rw [hll])] at ht1
      have hN : (linesL s).length = M := by omega
      simp [w6, w6', b1, hN, hf1, BMode.isLoose, -Int.natCast_add]
    · intro hb1
      have hll : ¬ l = [] := fun q => by
        have := of_decide_eq_false hb1
        exact this (by rw [q])
      rw [if_neg (fun q => hll (by simpa using q))] at ht1
      have hN : (linesL s).length = M + 1 := by omega
      simp [hN]
    · rintro f H' ⟨k3, k4, k5, rfl⟩
      have hEN : E.length ≤ (linesL s).length ∧ (∀ i (hi : i < E.length) (hi2 : i < (linesL s).length), (linesL s)[i] = lineB E[i]) := by
        rcases hRd.2 with ⟨h1, _⟩ | ⟨l2, L', h1, _⟩
        · refine ⟨by rw [h1]; simp, fun i hi hi2 => ?_⟩
          simp only [h1, List.getElem_map]
        · refine ⟨by rw [h1]; simp, fun i hi hi2 => ?_⟩
          simp only [h1]
          rw [List.getElem_append_left (by simpa using hi)]
          simp
      have hN2 : (linesL s).length ≤ M + 1 := by rw [ht1]; split <;> omega
      have hend : E.length < (linesL s).length → ∀ (hi2 : E.length < (linesL s).length) e, RightE e → (linesL s)[E.length] ≠ lineB e := fun hlt hi2 e he q => by
        rcases hRd.2 with ⟨h1, _⟩ | ⟨l2, L', h1, h2, _⟩
        · rw [h1] at hlt; simp at hlt
        · simp only [h1] at q
          rw [List.getElem_append_right (by simp)] at q
          simp at q
          exact h2 e he q
      have hlen : ∀ i (hi : i < (linesL s).length), (linesL s)[i].length ≤ s.length := fun i hi => by
        have := ht2 i hi
        exact hspl _ (List.mem_of_getElem? this)
      have hLg : ∀ i (hi : i < (linesL s).length), (L.map sv)[i]? = some (.string (bs (linesL s)[i])) := fun i hi => by
        rw [List.getElem?_map, ht2 i hi]; rfl
      have hbad : (linesL s = E.map lineB ∧ bad = 0) ∨ (E.length < (linesL s).length ∧ bad = E.length + 1) := by
        rcases hRd.2 with q | ⟨l2, L', h1, _, h2⟩
        · exact .inl q
        · exact .inr ⟨by rw [h1]; simp, h2⟩
      have hbadN : linesL s = E.map lineB → (linesL s).length = E.length := fun q => by rw [q]; simp
      generalize linesL s = W at *
      simp [-Int.natCast_add]
      refine awp_loop_of (α := KS) (fun z => z.i ≤ E.length) (fun z => [(3, .slice sa E.length sc), (4, .int .i64 (bad : Int)), (5, .slice (some ⟨H1.n, 0, none⟩) W.length (M + 1)), (6, .int .i64 z.i)]) (fun _ => H') (fun z => E.length - z.i) ⟨0⟩
        (Nat.zero_le _) ⟨by have := e2.n; omega, Nat.le_refl _, fun _ _ e => e, hcl1⟩ (by simp [k3, k4, k5]; exact ⟨hsb.mono (by omega), .int, vb_slice (by omega), .int⟩) ?_
      rintro ⟨i⟩ hi
      dsimp only at hi ⊢
      have hEl : E.length ≤ 10001 := by omega
      by_cases hiW : i < W.length
      · have hiW' : (i : Int) < (W.length : Int) := by omega
        have w4 : IntKind.i64.wrap ((i : Int) + 1) = ((i + 1 : Nat) : Int) := w1 i (by omega)
        have hgW := hLg i hiW
        have hlW := hlen i hiW
        simp [c8_0, hiW', aidx_of hiW, hf1, apart, hgW, -Int.natCast_add]
        refine (rParse_ok W[i] (by omega) H').mono ?_
        rintro v2 h9 ⟨hr, e'⟩
        rw [e']; clear e' h9
        by_cases hiE : i < E.length
        · have hR := hRd.1 E[i] (List.getElem_mem _)
          have hWE := hEN.2 i hiE hiW
          rw [hr.1 E[i] hR hWE]
          obtain ⟨x, md, ez, rfl, hxc⟩ := hget i hiE
          have hxk := hkeep x md ez hxc
          have f6 : (H'.push (.cells (rv E[i]) .ex 1)).cellsOf x = some (E.flatMap ev, md, ez) := by
            have := cellsOf_lt hcl1 hxk
            rw [cellsOf_ne (by omega)]; exact hxk
          have f7 := cellsOf_new H' (rv E[i]) .ex 1
          have hiE' : ¬ (E.length : Int) ≤ (i : Int) := by omega
          have hcut := flat_cut E i hiE
          simp [bs_lit, zzr, cellsOf_new, mc_rv, hl6, hpr, set_push, aun, hiE', aidx_of hiE, f6, f7, apart, hcut, acut_rv, -Int.natCast_add]
          refine (plain_ok E[i] hR.m _).mono ?_
          rintro _ h9 ⟨rfl, e'⟩
          rw [e']; clear e' h9
          simp [f7, apart, acut_rv, rv_eq, w4, -Int.natCast_add]
          exact ⟨⟨i + 1⟩, by show E.length - (i + 1) < E.length - i; omega, by show i + 1 ≤ E.length; omega, ⟨by have := e2.n; show h.n ≤ H'.n; omega, Nat.le_succ _, fun y ob q => by rw [push_m, if_neg (by have := (hcl1 y ob q).1; omega)]; exact q, hcl1⟩, hsb.mono (by omega), .int, vb_slice (by omega), rfl, .int⟩
        · have hie : i = E.length := by omega
          subst hie
          have hn : ∀ e, RightE e → W[E.length] ≠ lineB e := hend hiW hiW
          rw [hr.2 hn]
          have hne : ¬ E.length = W.length := by omega
          have hne' : ¬ (E.length : Int) = (W.length : Int) := by omega
          have hbd : bad = E.length + 1 := by
            rcases hbad with ⟨q, _⟩ | ⟨_, q⟩
            · have := hbadN q; omega
            · exact q
          have hb0 : ¬ ((E.length + 1 : Nat) : Int) = 0 := by omega
          have w4' : IntKind.i64.wrap ((E.length : Int) + 1) = ((E.length + 1 : Nat) : Int) := w1 _ (by omega)
          simp [bs_lit, zzr, cellsOf_new, mc_rv, hl6, hpr, set_push, aun, hbd, hb0, hne, hne', aeq, w4', -Int.natCast_add]
          exact e2.push hcl _
      · have hiW' : ¬ (i : Int) < (W.length : Int) := by omega
        have hie : i = E.length := by omega
        subst hie
        have hNE : W.length = E.length := by omega
        have hbd : bad = 0 := by
          rcases hbad with ⟨_, q⟩ | ⟨q, _⟩
          · exact q
          · omega
        simp [c8_0, hiW', hNE, hbd, aeq]
        exact e2
def c68_0 : AC := .seq (.ops [⟨ some 11, none, .bin .lss (.tmp 10) (.tmp 9) ⟩]) (.seq (.cond (.tmp 11) .skip (.exit 0)) (.seq (.block 1 (.seq (.ops [⟨ some 12, none, .mv (.tmp 10) ⟩, ⟨ some 13, none, .iAddrS 1 (.tmp 8) (.tmp 10) ⟩, ⟨ some 14, none, .load none (.tmp 13) ⟩, ⟨ some 6, none, .mv (.tmp 12) ⟩, ⟨ some 7, none, .mv (.tmp 14) ⟩]) (.seq (.ops [⟨ some 15, none, .mv (.tmp 7) ⟩, ⟨ some 16, none, .bin .neq (.tmp 15) (.const (.int .i64 0)) ⟩]) (.cond (.tmp 16) (.draw [([⟨ some 17, none, .mv (.tmp 5) ⟩, ⟨ some 18, none, .mv (.tmp 0) ⟩, ⟨ some 19, none, .mv (.tmp 6) ⟩, ⟨ some 20, none, .iAddrS 1 (.tmp 18) (.tmp 19) ⟩, ⟨ some 21, none, .load none (.tmp 20) ⟩, ⟨ some 22, none, .bin .add (.const (.string ⟨ ⟨[32] ⟩ ⟩)) (.tmp 21) ⟩, ⟨ some 23, none, .bin .add (.tmp 22) (.const (.string ⟨ ⟨[32] ⟩ ⟩)) ⟩, ⟨ some 24, none, .mv (.tmp 7) ⟩], [⟨ some 25, none, .call 54 [.tmp 24] ⟩], [⟨ some 21, none, .load none (.tmp 20) ⟩]), ([⟨ some 26, none, .bin .add (.tmp 23) (.tmp 25) ⟩, ⟨ some 27, none, .bin .add (.tmp 17) (.tmp 26) ⟩], [⟨ some 5, none, .mv (.tmp 27) ⟩], []), ([], [], [])]) .skip)))) (.ops [⟨ some 28, none, .bin .add (.tmp 10) (.const (.int .i64 1)) ⟩, ⟨ some 10, none, .mv (.tmp 28) ⟩])))
def c68 : AC := .seq (.ops [⟨ some 4, none, .mv (.const (.string ⟨ ⟨[] ⟩ ⟩)) ⟩]) (.seq (.ops [⟨ some 5, none, .mv (.const (.string ⟨ ⟨[] ⟩ ⟩)) ⟩]) (.seq (.seq (.ops [⟨ some 8, none, .mv (.tmp 1) ⟩, ⟨ some 9, none, .lenS false (.tmp 8) ⟩, ⟨ some 10, none, .mv (.const (.int .i64 0)) ⟩]) (.block 0 (.loop c68_0))) (.seq (.ops [⟨ some 29, none, .mv (.tmp 5) ⟩, ⟨ some 4, none, .mv (.tmp 29) ⟩]) .ret)))
theorem k68 : compF Tryd.prog Tryd.f68 = some (c68, [4]) := by kernel_rfl
theorem n68 : Tryd.f68.ntmps = 30 := by kernel_rfl
def c39 : AC := .seq (.ops [⟨ some 1, none, .box (.tmp 0) ⟩, ⟨ some 2, none, .mv (.const (.string ⟨ ⟨[] ⟩ ⟩)) ⟩]) (.seq (.ops [⟨ some 3, none, .mv (.const (.string ⟨ ⟨[111, 107] ⟩ ⟩)) ⟩]) (.seq (.seq (.ops [⟨ some 4, none, .fAddr 0 (.tmp 1) ⟩, ⟨ some 5, none, .load none (.tmp 4) ⟩, ⟨ some 6, none, .bin .neq (.tmp 5) (.const (.int .i64 0)) ⟩]) (.cond (.tmp 6) (.ops [⟨ some 7, none, .fAddr 0 (.tmp 1) ⟩, ⟨ some 8, none, .load none (.tmp 7) ⟩, ⟨ some 9, none, .call 54 [.tmp 8] ⟩, ⟨ some 10, none, .bin .add (.const (.string ⟨ ⟨[101, 114, 114, 111, 114, 32] ⟩ ⟩)) (.tmp 9) ⟩, ⟨ some 3, none, .mv (.tmp 10) ⟩]) .skip)) (.seq (.ops [⟨ some 11, none, .mv (.tmp 3) ⟩, ⟨ some 12, none, .buildS 3 [.string ⟨ ⟨[] ⟩ ⟩, .string ⟨ ⟨[] ⟩ ⟩, .string ⟨ ⟨[] ⟩ ⟩] [(0, 1, .const (.string ⟨ ⟨[115, 108, 111, 116] ⟩ ⟩)), (1, 1, .const (.string ⟨ ⟨[97, 116] ⟩ ⟩)), (2, 1, .const (.string ⟨ ⟨[119, 104, 97, 116] ⟩ ⟩))] ⟩, ⟨ some 13, none, .fAddr 1 (.tmp 1) ⟩, ⟨ some 14, none, .load none (.tmp 13) ⟩, ⟨ some 15, none, .fAddr 2 (.tmp 1) ⟩, ⟨ some 16, none, .load none (.tmp 15) ⟩, ⟨ some 17, none, .fAddr 3 (.tmp 1) ⟩, ⟨ some 18, none, .load none (.tmp 17) ⟩, ⟨ some 19, none, .buildS 3 [.int .i64 0, .int .i64 0, .int .i64 0] [(0, 1, .tmp 14), (1, 1, .tmp 16), (2, 1, .tmp 18)] ⟩, ⟨ some 20, none, .call 68 [.tmp 12, .tmp 19] ⟩, ⟨ some 21, none, .bin .add (.tmp 11) (.tmp 20) ⟩, ⟨ some 3, none, .mv (.tmp 21) ⟩]) (.seq (.seq (.ops [⟨ some 22, none, .fAddr 4 (.tmp 1) ⟩, ⟨ some 23, none, .load (some 3) (.tmp 22) ⟩, ⟨ some 24, none, .build [.int .i64 0, .int .i64 0, .int .i64 0] [] ⟩, ⟨ some 25, none, .eqa true [.i, .i, .i] (.tmp 23) (.tmp 24) ⟩]) (.cond (.tmp 25) (.ops [⟨ some 26, none, .mv (.tmp 3) ⟩, ⟨ some 27, none, .fAddr 4 (.tmp 1) ⟩, ⟨ some 28, none, .load (some 3) (.tmp 27) ⟩, ⟨ some 29, none, .call 19 [.tmp 28] ⟩, ⟨ some 30, none, .bin .add (.const (.string ⟨ ⟨[32, 118, 101, 114, 115, 105, 111, 110, 32] ⟩ ⟩)) (.tmp 29) ⟩, ⟨ some 31, none, .bin .add (.tmp 26) (.tmp 30) ⟩, ⟨ some 3, none, .mv (.tmp 31) ⟩]) .skip)) (.seq (.seq (.ops [⟨ some 32, none, .fAddr 7 (.tmp 1) ⟩, ⟨ some 33, none, .load none (.tmp 32) ⟩, ⟨ some 34, none, .bin .neq (.tmp 33) (.const (.string ⟨ ⟨[] ⟩ ⟩)) ⟩]) (.cond (.tmp 34) (.ops [⟨ some 35, none, .mv (.tmp 3) ⟩, ⟨ some 36, none, .fAddr 7 (.tmp 1) ⟩, ⟨ some 37, none, .load none (.tmp 36) ⟩, ⟨ some 38, none, .call 69 [.tmp 37] ⟩, ⟨ some 39, none, .bin .add (.const (.string ⟨ ⟨[32, 105, 109, 97, 103, 101, 32] ⟩ ⟩)) (.tmp 38) ⟩, ⟨ some 40, none, .bin .add (.tmp 35) (.tmp 39) ⟩, ⟨ some 3, none, .mv (.tmp 40) ⟩]) .skip)) (.seq (.ops [⟨ some 41, none, .mv (.tmp 3) ⟩, ⟨ some 2, none, .mv (.tmp 41) ⟩]) .ret))))))
theorem k39 : compF Tryd.prog Tryd.f39 = some (c39, [2]) := by kernel_rfl
theorem n39 : Tryd.f39.ntmps = 42 := by kernel_rfl
/-! an answer's line -/
def prI (nm : List UInt8) (x : Int) : List UInt8 := if x = 0 then [] else 32 :: (nm ++ 32 :: itoaB x)
def prs : List (List UInt8) → List Int → List UInt8
  | nm :: N, x :: X => prI nm x ++ prs N X
  | _, _ => []
theorem prs_take : ∀ (N : List (List UInt8)) (X : List Int) (i : Nat) (h1 : i < N.length) (h2 : i < X.length), prs (N.take (i + 1)) (X.take (i + 1)) = prs (N.take i) (X.take i) ++ prI N[i] X[i]
  | [], _, i, h1, _ => absurd h1 (by simp)
  | _ :: _, [], i, _, h2 => absurd h2 (by simp)
  | a :: N, x :: X, 0, _, _ => by simp [prs]
  | a :: N, x :: X, i + 1, h1, h2 => by
    have ih := prs_take N X i (by simpa using h1) (by simpa using h2)
    simp only [List.take_succ_cons, prs, List.getElem_cons_succ] at ih ⊢
    rw [ih, List.append_assoc]
theorem pairs_ok (nb xb : Nat) (N : List (List UInt8)) (X : List Int) (h : Heap) {m1 m2 : BMode} {e1 e2 : Nat} (hN : h.cellsOf nb = some (N.map sv, m1, e1)) (hX : h.cellsOf xb = some (X.map (Value.int .i64), m2, e2)) (hl : N.length = X.length) (hle : X.length ≤ 100)
    (hNl : ∀ n ∈ N, n.length ≤ 100) (hXr : ∀ x ∈ X, -1000000 ≤ x ∧ x ≤ 1000000) :
    ACalls Tryd.prog 68 [.slice (some ⟨nb, 0, none⟩) X.length X.length, .slice (some ⟨xb, 0, none⟩) X.length X.length] h fun v h' => v = sv (prs N X) ∧ h' = h := by
  refine ACalls.same .string (acalls_of mix Tryd.func68 k68 n68 (by simp) fun hcl hb => ?_)
  have hnb := cellsOf_lt hcl hN
  have hxb := cellsOf_lt hcl hX
  simp only [c68, s_seq, s_ops]
  simp
  refine awp_loop_of (α := KS) (fun z => z.i ≤ X.length ∧ (prs (N.take z.i) (X.take z.i)).length ≤ z.i * 200) (fun z => [(0, .slice (some ⟨nb, 0, none⟩) X.length X.length), (5, sv (prs (N.take z.i) (X.take z.i))), (8, .slice (some ⟨xb, 0, none⟩) X.length X.length), (9, .int .i64 X.length), (10, .int .i64 z.i)]) (fun _ => h) (fun z => X.length - z.i) ⟨0⟩
    ⟨Nat.zero_le _, by simp [prs]⟩ (Heap.Sub.refl hcl) (by simp [prs, bs_lit]; exact ⟨vb_slice hnb, ⟨rfl, .string⟩, vb_slice hxb, .int, .int⟩) ?_
  rintro ⟨i⟩ ⟨hi, hlen⟩
  dsimp only at hi hlen ⊢
  by_cases hlt : i < X.length
  · have hi' : (i : Int) < (X.length : Int) := by omega
    have gX : (X.map (Value.int .i64))[i]? = some (.int .i64 X[i]) := by rw [List.getElem?_map, List.getElem?_eq_getElem hlt]; rfl
    have gN : (N.map sv)[i]? = some (.string (bs (N[i]'(by omega)))) := by rw [List.getElem?_map, List.getElem?_eq_getElem (by omega)]; rfl
    have htk := prs_take N X i (by omega) hlt
    have hr := hXr X[i] (List.getElem_mem _)
    have hnl := hNl (N[i]'(by omega)) (List.getElem_mem _)
    have w4 : IntKind.i64.wrap ((i : Int) + 1) = ((i + 1 : Nat) : Int) := w1 i (by omega)
    generalize hG : prs (N.take i) (X.take i) = G at *
    generalize hxx : X[i] = x at *
    generalize hnn : N[i]'(by omega) = nm at *
    have iX : aidx (.int .i64 (i : Int)) X.length = some i := aidx_of hlt
    by_cases hx0 : x = 0
    · have h0 : prI nm x = [] := by unfold prI; rw [if_pos hx0]
      rw [h0, List.append_nil] at htk
      simp [c68_0, hi', iX, hX, gX, hxx, apart, hx0, w4, -Int.natCast_add]
      exact ⟨⟨i + 1⟩, by show X.length - (i + 1) < X.length - i; omega, ⟨by show i + 1 ≤ X.length; omega, by show (prs (N.take (i + 1)) (X.take (i + 1))).length ≤ (i + 1) * 200; rw [htk]; omega⟩, Heap.Sub.refl hcl, vb_slice hnb, ⟨by show sv G = sv (prs (N.take (i + 1)) (X.take (i + 1))); rw [htk], .string⟩, vb_slice hxb, .int, rfl, .int⟩
    · have h0 : prI nm x = 32 :: (nm ++ 32 :: itoaB x) := by unfold prI; rw [if_neg hx0]
      rw [h0] at htk
      have hil := itoaB_len x (by omega) (by omega)
      have hsv : sv G = .string (bs G) := rfl
      simp (disch := first | exact trivial | (simp; done) | (simp; omega) | omega) [szif, hsv, sv, bs_size, bs_append, bs_lit, c68_0, hi', iX, hX, hN, gN, gX, hxx, hnn, apart, hx0, -Int.natCast_add]
      refine (itoa_ok x (by omega) (by omega) h).mono ?_
      rintro _ h9 ⟨rfl, e'⟩
      rw [e']; clear e' h9
      simp (disch := first | exact trivial | (simp; done) | (simp; omega) | omega) [szif, bs_size, bs_append, bs_lit, sv, iX, hX, hN, gN, hnn, apart, hx0, w4, -Int.natCast_add]
      refine ⟨⟨i + 1⟩, by show X.length - (i + 1) < X.length - i; omega, ⟨by show i + 1 ≤ X.length; omega, by show (prs (N.take (i + 1)) (X.take (i + 1))).length ≤ (i + 1) * 200; rw [htk]; simp; omega⟩, Heap.Sub.refl hcl, vb_slice hnb, ⟨?_, .string⟩, vb_slice hxb, .int, rfl, .int⟩
      show bs _ = bs (prs (N.take (i + 1)) (X.take (i + 1)))
      rw [htk]
  · have hie : i = X.length := by omega
    subst hie
    rw [List.take_of_length_le (by omega), List.take_of_length_le (Nat.le_refl _)]
    simp [c68_0]
    exact Heap.Ext.refl h
theorem prs_len : ∀ (N : List (List UInt8)) (X : List Int), (∀ n ∈ N, n.length ≤ 100) → (∀ x ∈ X, -1000000 ≤ x ∧ x ≤ 1000000) → (prs N X).length ≤ X.length * 200
  | [], X, _, _ => by simp [prs]
  | _ :: _, [], _, _ => by simp [prs]
  | a :: N, x :: X, h1, h2 => by
    have ih := prs_len N X (fun n hn => h1 n (by simp [hn])) (fun n hn => h2 n (by simp [hn]))
    have ha := h1 a (by simp)
    have hx := h2 x (by simp)
    have hl := itoaB_len x (by omega) (by omega)
    have : (prI a x).length ≤ 200 := by
      unfold prI
      split
      · simp
      · simp; omega
    simp only [prs, List.length_append, List.length_cons]
    omega
structure An where
  e : Int
  l : Int
  p : Int
  w : Int
  a : Int
  b : Int
  c : Int
  s : List UInt8
def av (x : An) : List Value := [.int .i64 x.e, .int .i64 x.l, .int .i64 x.p, .int .i64 x.w, .int .i64 x.a, .int .i64 x.b, .int .i64 x.c, sv x.s]
theorem av_bel {n : Nat} {x : An} : ∀ v ∈ av x, VBelow n v := fun v hv => by
  simp only [av, List.mem_cons, List.not_mem_nil, or_false] at hv
  rcases hv with rfl | rfl | rfl | rfl | rfl | rfl | rfl | rfl
  all_goals first | exact .int | exact .string
theorem mc_av (x : An) : mcells (.agg (av x).toArray) = some (av x) := rfl
theorem acut_av (x : An) : acut (av x) 0 8 = some (av x) := rfl
theorem acut_av4 (x : An) : acut (av x) 4 3 = some (iv x.a x.b x.c) := rfl
theorem av_get (x : An) : (av x)[0]? = some (.int .i64 x.e) ∧ (av x)[1]? = some (.int .i64 x.l) ∧ (av x)[2]? = some (.int .i64 x.p) ∧ (av x)[3]? = some (.int .i64 x.w) ∧ (av x)[7]? = some (.string (bs x.s)) := ⟨rfl, rfl, rfl, rfl, rfl⟩
def telN : List (List UInt8) := [[115, 108, 111, 116], [97, 116], [119, 104, 97, 116]]
def t1B (x : An) : List UInt8 := if x.e = 0 then [111, 107] else [101, 114, 114, 111, 114, 32] ++ itoaB x.e
def t2B (x : An) : List UInt8 := t1B x ++ prs telN [x.l, x.p, x.w]
def verB (a b c : Int) : List UInt8 := if vOk a b c then vtext a b c else []
theorem verB_len (a b c : Int) : (verB a b c).length ≤ 20 := by
  unfold verB
  split
  · rename_i hv
    unfold vOk at hv
    have l1 := ndig_small (u := a.toNat) (k := 5) (by omega) (by omega) (by omega)
    have l2 := ndig_small (u := b.toNat) (k := 5) (by omega) (by omega) (by omega)
    have l3 := ndig_small (u := c.toNat) (k := 5) (by omega) (by omega) (by omega)
    simp [vtext, dec_len]
    omega
  · simp
def t3B (x : An) : List UInt8 := if x.a = 0 ∧ x.b = 0 ∧ x.c = 0 then t2B x else t2B x ++ ([32, 118, 101, 114, 115, 105, 111, 110, 32] ++ verB x.a x.b x.c)
def t4B (x : An) : List UInt8 := if x.s = [] then t3B x else t3B x ++ ([32, 105, 109, 97, 103, 101, 32] ++ wordB x.s)
structure An.Ok (x : An) : Prop where
  e : -1000000 ≤ x.e ∧ x.e ≤ 1000000
  l : -1000000 ≤ x.l ∧ x.l ≤ 1000000
  p : -1000000 ≤ x.p ∧ x.p ≤ 1000000
  w : -1000000 ≤ x.w ∧ x.w ≤ 1000000
  s : x.s.length ≤ 2000
theorem An.Ok.X {x : An} (h : x.Ok) : ∀ n ∈ [x.l, x.p, x.w], -1000000 ≤ n ∧ n ≤ 1000000 := fun n hn => by
  simp only [List.mem_cons, List.not_mem_nil, or_false] at hn
  rcases hn with rfl | rfl | rfl
  · exact h.l
  · exact h.p
  · exact h.w
theorem telN_len : ∀ n ∈ telN, n.length ≤ 100 := by decide
theorem t1B_len {x : An} (h : x.Ok) : (t1B x).length ≤ 30 := by
  have := itoaB_len x.e (by have := h.e; omega) (by have := h.e; omega)
  unfold t1B
  split
  · simp
  · simp; omega
theorem t2B_len {x : An} (h : x.Ok) : (t2B x).length ≤ 700 := by
  have h1 := t1B_len h
  have h2 := prs_len telN [x.l, x.p, x.w] telN_len h.X
  simp only [t2B, List.length_append, List.length_cons, List.length_nil] at h2 ⊢
  omega
theorem t3B_len {x : An} (h : x.Ok) : (t3B x).length ≤ 800 := by
  have h1 := t2B_len h
  have h2 := verB_len x.a x.b x.c
  unfold t3B
  split
  · omega
  · simp; omega
theorem word_len (s : List UInt8) : (wordB s).length = 2 * s.length + 1 := by unfold wordB; rw [List.length_cons, hexB_len]
theorem iv_eq (x y z x' y' z' : Int) : aeqL [.i, .i, .i] (iv x y z) (iv x' y' z') = some (decide (x = x' ∧ y = y' ∧ z = z')) := by
  simp only [aeqL, aeqC, iv, if_true, Bool.and_true, Option.some.injEq]
  by_cases q1 : x = x' <;> by_cases q2 : y = y' <;> by_cases q3 : z = z' <;> simp [q1, q2, q3]
theorem tell_ok (x : An) (hx : x.Ok) (h : Heap) : ACalls Tryd.prog 39 [.agg (av x).toArray] h fun v h' => v = sv (t4B x) ∧ h' = h := by
  refine ACalls.same .string (acalls_of mix Tryd.func39 k39 n39 (by simp) fun hcl hb => ?_)
  have f0 := cellsOf_new h (av x) .ex 1
  have n0 : (h.push (.cells (av x) .ex 1)).n = h.n + 1 := rfl
  have e0 := (Heap.Ext.refl h).push hcl (.cells (av x) .ex 1)
  have c0 : (h.push (.cells (av x) .ex 1)).Closed := closed_push hcl av_bel
  obtain ⟨g0, g1, g2, g3, g7⟩ := av_get x
  have z3 : ([.int .i64 0, .int .i64 0, .int .i64 0] : List Value) = iv 0 0 0 := rfl
  have he := hx.e
  have L1 := t1B_len hx
  have L2 := t2B_len hx
  have L3 := t3B_len hx
  have LV := verB_len x.a x.b x.c
  have LW := word_len x.s
  have LS := hx.s
  simp only [c39, s_seq, s_ops]
  simp [mc_av, f0, g0, apart]
  generalize h.push (.cells (av x) .ex 1) = H at *
  refine cond_join (fun f H' => f 1 = .pointer (some ⟨h.n, 0, none⟩) ∧ f 3 = sv (t1B x) ∧ H' = H) ?_ ?_ ?_
  · intro hb1
    have he0 : ¬ x.e = 0 := by simpa using hb1
    have hl := itoaB_len x.e (by omega) (by omega)
    have ht : t1B x = [101, 114, 114, 111, 114, 32] ++ itoaB x.e := by unfold t1B; rw [if_neg he0]
    simp [f0, g0, apart]
    refine (itoa_ok x.e (by omega) (by omega) H).mono ?_
    rintro _ h9 ⟨rfl, e'⟩
    rw [e']; clear e' h9
    simp (disch := first | exact trivial | (simp; done) | (simp; omega) | omega) [szif, bs_size, bs_append, bs_lit]
    rw [ht]; rfl
  · intro hb1
    have he0 : x.e = 0 := by simpa using hb1
    have ht : t1B x = [111, 107] := by unfold t1B; rw [if_pos he0]
    simp [bs_lit]
    rw [ht]; rfl
  · rintro f H' ⟨k1, k3, rfl⟩
    have fil1 : afill [.string (bs []), .string (bs []), .string (bs [])] [(0, 1, .string (bs [115, 108, 111, 116])), (1, 1, .string (bs [97, 116])), (2, 1, .string (bs [119, 104, 97, 116]))] = some (telN.map sv) := rfl
    have fil2 : afill (iv 0 0 0) [(0, 1, .int .i64 x.l), (1, 1, .int .i64 x.p), (2, 1, .int .i64 x.w)] = some ([x.l, x.p, x.w].map (Value.int .i64)) := rfl
    have f01 : (H'.push (.cells (telN.map sv) .ex 1)).cellsOf h.n = some (av x, .ex, 1) := by rw [cellsOf_ne (by omega)]; exact f0
    have n1 : (H'.push (.cells (telN.map sv) .ex 1)).n = H'.n + 1 := rfl
    have c1 : (H'.push (.cells (telN.map sv) .ex 1)).Closed := closed_push c0 fun v hv => by obtain ⟨y, _, rfl⟩ := List.mem_map.1 hv; exact .string
    have e1 := e0.push hcl (.cells (telN.map sv) .ex 1)
    have fN := cellsOf_new H' (telN.map sv) .ex 1
    simp [k1, k3, z3, bs_lit, fil1, fil2, f01, g1, g2, g3, apart]
    generalize H'.push (.cells (telN.map sv) .ex 1) = H1 at *
    have fX := cellsOf_new H1 ([x.l, x.p, x.w].map (Value.int .i64)) .ex 1
    have f02 : (H1.push (.cells ([x.l, x.p, x.w].map (Value.int .i64)) .ex 1)).cellsOf h.n = some (av x, .ex, 1) := by rw [cellsOf_ne (by omega)]; exact f01
    have fN2 : (H1.push (.cells ([x.l, x.p, x.w].map (Value.int .i64)) .ex 1)).cellsOf H'.n = some (telN.map sv, .ex, 1) := by rw [cellsOf_ne (by omega)]; exact fN
    have e2 := e1.push hcl (.cells ([x.l, x.p, x.w].map (Value.int .i64)) .ex 1)
    have c2 : (H1.push (.cells ([x.l, x.p, x.w].map (Value.int .i64)) .ex 1)).Closed := closed_push c1 fun v hv => by obtain ⟨y, _, rfl⟩ := List.mem_map.1 hv; exact .int
    have hm3 : [Value.int .i64 x.l, Value.int .i64 x.p, Value.int .i64 x.w] = [x.l, x.p, x.w].map (Value.int .i64) := rfl
    try rw [hm3]
    generalize hH2 : H1.push (.cells ([x.l, x.p, x.w].map (Value.int .i64)) .ex 1) = H2 at *
    rw [n1] at fX
    refine (pairs_ok H'.n (H'.n + 1) telN [x.l, x.p, x.w] H2 fN2 fX rfl (by simp) telN_len hx.X).mono ?_
    rintro _ h9 ⟨rfl, e'⟩
    rw [e']; clear e' h9
    have L2' : (t1B x).length + (prs telN [x.l, x.p, x.w]).length ≤ 9223372036854775807 := by
      have : (t2B x).length = (t1B x).length + (prs telN [x.l, x.p, x.w]).length := by unfold t2B; rw [List.length_append]
      omega
    have ht2 : t1B x ++ prs telN [x.l, x.p, x.w] = t2B x := rfl
    simp (disch := first | exact trivial | (simp; done) | (simp; omega) | omega) [szif, bs_size, bs_append, bs_lit, sv, ht2, k1, f02, acut_av4, iv_eq, apart]
    refine cond_join (fun f H' => f 1 = .pointer (some ⟨h.n, 0, none⟩) ∧ f 3 = sv (t3B x) ∧ H' = H2) ?_ ?_ ?_
    · intro hb1
      have hn : ¬ (x.a = 0 ∧ x.b = 0 ∧ x.c = 0) := fun ⟨a1, a2, a3⟩ => by simp [a1, a2, a3] at hb1
      have ht : t3B x = t2B x ++ ([32, 118, 101, 114, 115, 105, 111, 110, 32] ++ verB x.a x.b x.c) := by unfold t3B; rw [if_neg hn]
      simp [k1, f02, acut_av4, apart]
      refine (verText_ok x.a x.b x.c H2).mono ?_
      rintro _ h9 ⟨rfl, e'⟩
      rw [e']; clear e' h9
      have hvB : (if vOk x.a x.b x.c then vtext x.a x.b x.c else []) = verB x.a x.b x.c := rfl
      rw [hvB]
      simp (disch := first | exact trivial | (simp; done) | (simp; omega) | omega) [szif, bs_size, bs_append, bs_lit]
      rw [ht]; simp [sv, k1]
    · intro hb1
      have hn : x.a = 0 ∧ x.b = 0 ∧ x.c = 0 := by simpa using hb1
      have ht : t3B x = t2B x := by unfold t3B; rw [if_pos hn]
      simp [k1]
      rw [ht]; rfl
    · rintro f H3 ⟨k1, k3, rfl⟩
      simp [k1, k3, f02, g7, apart, bs_lit]
      refine cond_join (fun f H' => f 1 = .pointer (some ⟨h.n, 0, none⟩) ∧ f 3 = sv (t4B x) ∧ H' = H3) ?_ ?_ ?_
      · intro hb1
        have hn : ¬ x.s = [] := by simpa [bs_inj] using hb1
        have ht : t4B x = t3B x ++ ([32, 105, 109, 97, 103, 101, 32] ++ wordB x.s) := by unfold t4B; rw [if_neg hn]
        simp [k1, k3, f02, g7, apart]
        refine (text_ok x.s (by omega) H3).mono ?_
        rintro _ h9 ⟨rfl, e'⟩
        rw [e']; clear e' h9
        simp (disch := first | exact trivial | (simp; done) | (simp; omega) | omega) [szif, bs_size, bs_append, bs_lit, sv]
        rw [ht]; simp [sv, k1]
      · intro hb1
        have hn : x.s = [] := by simpa [bs_inj] using hb1
        have ht : t4B x = t3B x := by unfold t4B; rw [if_pos hn]
        simp [k1, k3]
        rw [ht]
      · rintro f H4 ⟨k1, k3, rfl⟩
        simp [k3]
        exact ⟨rfl, e2⟩
def c9_2 : AC := .seq (.ops [⟨ some 52, none, .bin .lss (.tmp 51) (.tmp 50) ⟩]) (.seq (.cond (.tmp 52) .skip (.exit 2)) (.seq (.block 3 (.seq (.ops [⟨ some 53, none, .mv (.tmp 51) ⟩, ⟨ some 54, none, .iAddrS 1 (.tmp 49) (.tmp 51) ⟩, ⟨ some 55, none, .load none (.tmp 54) ⟩, ⟨ some 6, none, .mv (.tmp 53) ⟩, ⟨ some 7, none, .mv (.tmp 55) ⟩]) (.seq (.ops [⟨ some 56, none, .mv (.tmp 7) ⟩, ⟨ some 57, none, .bin .neq (.tmp 56) (.const (.int .i64 0)) ⟩]) (.cond (.tmp 57) (.drawT [⟨ some 58, none, .mv (.tmp 5) ⟩, ⟨ some 60, none, .mv (.tmp 6) ⟩, ⟨ some 63, none, .mv (.tmp 7) ⟩] (DT.br ⟨ some 59, none, .buildS 3 [.string ⟨ ⟨[] ⟩ ⟩, .string ⟨ ⟨[] ⟩ ⟩, .string ⟨ ⟨[] ⟩ ⟩] [(0, 1, .const (.string ⟨ ⟨[32, 115, 108, 111, 116, 32] ⟩ ⟩)), (1, 1, .const (.string ⟨ ⟨[32, 97, 116, 32] ⟩ ⟩)), (2, 1, .const (.string ⟨ ⟨[32, 119, 104, 97, 116, 32] ⟩ ⟩))] ⟩ [] [⟨ some 61, none, .iAddrS 1 (.tmp 59) (.tmp 60) ⟩, ⟨ some 62, none, .load none (.tmp 61) ⟩] (DT.br ⟨ some 64, none, .call 37 [.tmp 63] ⟩ [⟨ some 62, none, .load none (.tmp 61) ⟩] [⟨ some 65, none, .bin .add (.tmp 62) (.tmp 64) ⟩, ⟨ some 66, none, .bin .add (.tmp 58) (.tmp 65) ⟩] (DT.br ⟨ some 5, none, .mv (.tmp 66) ⟩ [] [] DT.nil DT.nil) DT.nil) (DT.br ⟨ some 64, none, .call 37 [.tmp 63] ⟩ [] [] (DT.br ⟨ some 59, none, .buildS 3 [.string ⟨ ⟨[] ⟩ ⟩, .string ⟨ ⟨[] ⟩ ⟩, .string ⟨ ⟨[] ⟩ ⟩] [(0, 1, .const (.string ⟨ ⟨[32, 115, 108, 111, 116, 32] ⟩ ⟩)), (1, 1, .const (.string ⟨ ⟨[32, 97, 116, 32] ⟩ ⟩)), (2, 1, .const (.string ⟨ ⟨[32, 119, 104, 97, 116, 32] ⟩ ⟩))] ⟩ [] [⟨ some 61, none, .iAddrS 1 (.tmp 59) (.tmp 60) ⟩, ⟨ some 62, none, .load none (.tmp 61) ⟩, ⟨ some 65, none, .bin .add (.tmp 62) (.tmp 64) ⟩, ⟨ some 66, none, .bin .add (.tmp 58) (.tmp 65) ⟩] (DT.br ⟨ some 5, none, .mv (.tmp 66) ⟩ [] [] DT.nil DT.nil) DT.nil) DT.nil))) .skip)))) (.ops [⟨ some 67, none, .bin .add (.tmp 51) (.const (.int .i64 1)) ⟩, ⟨ some 51, none, .mv (.tmp 67) ⟩])))
def c9_0 : AC := .seq (.ops [⟨ some 26, none, .bin .lss (.tmp 25) (.tmp 24) ⟩]) (.seq (.cond (.tmp 26) .skip (.exit 0)) (.seq (.block 1 (.seq (.ops [⟨ some 27, none, .iAddrS 1 (.tmp 23) (.tmp 25) ⟩, ⟨ some 28, none, .load none (.tmp 27) ⟩, ⟨ some 4, none, .mv (.tmp 28) ⟩]) (.seq (.ops [⟨ some 29, none, .mv (.tmp 4) ⟩, ⟨ some 30, none, .bin .lss (.tmp 29) (.const (.int .i64 (-1000000))) ⟩, ⟨ some 31, none, .mv (.tmp 30) ⟩, ⟨ some 32, some (31, false), .mv (.tmp 4) ⟩, ⟨ some 33, some (31, false), .bin .gtr (.tmp 32) (.const (.int .i64 1000000)) ⟩, ⟨ some 34, none, .pick (.tmp 31) (.const (.bool true)) (.tmp 33) ⟩]) (.cond (.tmp 34) (.seq (.ops [⟨ some 2, none, .mv (.const (.bool true)) ⟩]) .ret) .skip)))) (.ops [⟨ some 35, none, .bin .add (.tmp 25) (.const (.int .i64 1)) ⟩, ⟨ some 25, none, .mv (.tmp 35) ⟩])))
def c9 : AC := .seq (.ops [⟨ some 1, none, .box (.tmp 0) ⟩, ⟨ some 2, none, .mv (.const (.bool false)) ⟩]) (.seq (.seq (.ops [⟨ some 9, none, .call 27 [] ⟩, ⟨ some 10, none, .un .not (.tmp 9) ⟩]) (.cond (.tmp 10) (.seq (.ops [⟨ some 2, none, .mv (.const (.bool false)) ⟩]) .ret) .skip)) (.seq (.seq (.ops [⟨ some 11, none, .fAddr 7 (.tmp 1) ⟩, ⟨ some 12, none, .load none (.tmp 11) ⟩, ⟨ some 13, none, .lenS true (.tmp 12) ⟩, ⟨ some 14, none, .bin .gtr (.tmp 13) (.const (.int .i64 2000)) ⟩]) (.cond (.tmp 14) (.seq (.ops [⟨ some 2, none, .mv (.const (.bool true)) ⟩]) .ret) .skip)) (.seq (.seq (.ops [⟨ some 15, none, .fAddr 0 (.tmp 1) ⟩, ⟨ some 16, none, .load none (.tmp 15) ⟩, ⟨ some 17, none, .fAddr 1 (.tmp 1) ⟩, ⟨ some 18, none, .load none (.tmp 17) ⟩, ⟨ some 19, none, .fAddr 2 (.tmp 1) ⟩, ⟨ some 20, none, .load none (.tmp 19) ⟩, ⟨ some 21, none, .fAddr 3 (.tmp 1) ⟩, ⟨ some 22, none, .load none (.tmp 21) ⟩, ⟨ some 23, none, .buildS 4 [.int .i64 0, .int .i64 0, .int .i64 0, .int .i64 0] [(0, 1, .tmp 16), (1, 1, .tmp 18), (2, 1, .tmp 20), (3, 1, .tmp 22)] ⟩, ⟨ some 24, none, .lenS false (.tmp 23) ⟩, ⟨ some 25, none, .mv (.const (.int .i64 0)) ⟩]) (.block 0 (.loop c9_0))) (.seq (.ops [⟨ some 5, none, .mv (.const (.string ⟨ ⟨[111, 107] ⟩ ⟩)) ⟩]) (.seq (.seq (.ops [⟨ some 36, none, .fAddr 0 (.tmp 1) ⟩, ⟨ some 37, none, .load none (.tmp 36) ⟩, ⟨ some 38, none, .bin .neq (.tmp 37) (.const (.int .i64 0)) ⟩]) (.cond (.tmp 38) (.ops [⟨ some 39, none, .fAddr 0 (.tmp 1) ⟩, ⟨ some 40, none, .load none (.tmp 39) ⟩, ⟨ some 41, none, .call 37 [.tmp 40] ⟩, ⟨ some 42, none, .bin .add (.const (.string ⟨ ⟨[101, 114, 114, 111, 114, 32] ⟩ ⟩)) (.tmp 41) ⟩, ⟨ some 5, none, .mv (.tmp 42) ⟩]) .skip)) (.seq (.seq (.ops [⟨ some 43, none, .fAddr 1 (.tmp 1) ⟩, ⟨ some 44, none, .load none (.tmp 43) ⟩, ⟨ some 45, none, .fAddr 2 (.tmp 1) ⟩, ⟨ some 46, none, .load none (.tmp 45) ⟩, ⟨ some 47, none, .fAddr 3 (.tmp 1) ⟩, ⟨ some 48, none, .load none (.tmp 47) ⟩, ⟨ some 49, none, .buildS 3 [.int .i64 0, .int .i64 0, .int .i64 0] [(0, 1, .tmp 44), (1, 1, .tmp 46), (2, 1, .tmp 48)] ⟩, ⟨ some 50, none, .lenS false (.tmp 49) ⟩, ⟨ some 51, none, .mv (.const (.int .i64 0)) ⟩]) (.block 2 (.loop c9_2))) (.seq (.seq (.ops [⟨ some 68, none, .fAddr 4 (.tmp 1) ⟩, ⟨ some 69, none, .load (some 3) (.tmp 68) ⟩, ⟨ some 70, none, .build [.int .i64 0, .int .i64 0, .int .i64 0] [] ⟩, ⟨ some 71, none, .eqa true [.i, .i, .i] (.tmp 69) (.tmp 70) ⟩]) (.cond (.tmp 71) (.seq (.ops [⟨ some 8, none, .mv (.const (.string ⟨ ⟨[] ⟩ ⟩)) ⟩]) (.seq (.seq (.ops [⟨ some 72, none, .fAddr 4 (.tmp 1) ⟩, ⟨ some 73, none, .load (some 3) (.tmp 72) ⟩, ⟨ some 74, none, .call 18 [.tmp 73] ⟩]) (.cond (.tmp 74) (.ops [⟨ some 75, none, .fAddr 4 (.tmp 1) ⟩, ⟨ some 76, none, .load (some 3) (.tmp 75) ⟩, ⟨ some 77, none, .call 22 [.tmp 76] ⟩, ⟨ some 8, none, .mv (.tmp 77) ⟩]) .skip)) (.ops [⟨ some 78, none, .mv (.tmp 5) ⟩, ⟨ some 79, none, .mv (.tmp 8) ⟩, ⟨ some 80, none, .bin .add (.const (.string ⟨ ⟨[32, 118, 101, 114, 115, 105, 111, 110, 32] ⟩ ⟩)) (.tmp 79) ⟩, ⟨ some 81, none, .bin .add (.tmp 78) (.tmp 80) ⟩, ⟨ some 5, none, .mv (.tmp 81) ⟩]))) .skip)) (.seq (.seq (.ops [⟨ some 82, none, .fAddr 7 (.tmp 1) ⟩, ⟨ some 83, none, .load none (.tmp 82) ⟩, ⟨ some 84, none, .bin .neq (.tmp 83) (.const (.string ⟨ ⟨[] ⟩ ⟩)) ⟩]) (.cond (.tmp 84) (.ops [⟨ some 85, none, .mv (.tmp 5) ⟩, ⟨ some 86, none, .fAddr 7 (.tmp 1) ⟩, ⟨ some 87, none, .load none (.tmp 86) ⟩, ⟨ some 88, none, .call 38 [.tmp 87] ⟩, ⟨ some 89, none, .bin .add (.const (.string ⟨ ⟨[32, 105, 109, 97, 103, 101, 32] ⟩ ⟩)) (.tmp 88) ⟩, ⟨ some 90, none, .bin .add (.tmp 85) (.tmp 89) ⟩, ⟨ some 5, none, .mv (.tmp 90) ⟩]) .skip)) (.seq (.ops [⟨ some 91, none, .load (some 8) (.tmp 1) ⟩, ⟨ some 92, none, .call 39 [.tmp 91] ⟩, ⟨ some 93, none, .mv (.tmp 5) ⟩, ⟨ some 94, none, .bin .eql (.tmp 92) (.tmp 93) ⟩, ⟨ some 2, none, .mv (.tmp 94) ⟩]) .ret)))))))))
theorem k9 : compF Tryd.prog Tryd.f9 = some (c9, [2]) := by kernel_rfl
theorem n9 : Tryd.f9.ntmps = 95 := by kernel_rfl
/-! LinesTell -/
def tel2 : List (List UInt8) := [[32, 115, 108, 111, 116, 32], [32, 97, 116, 32], [32, 119, 104, 97, 116, 32]]
theorem tel2_get (i : Nat) (h : i < 3) : (tel2.map sv)[i]? = some (.string (bs (32 :: (telN[i]'h ++ [32])))) := by
  match i, h with
  | 0, _ => rfl
  | 1, _ => rfl
  | 2, _ => rfl
structure LTS where
  i : Nat
  H : Heap
theorem Gr.refl' {h : Heap} (hc : h.Closed) : Gr h h := ⟨Nat.le_refl _, hc, fun _ _ e => e⟩
theorem linesTell_law (x : An) (h : Heap) :
    ACalls Tryd.prog 9 [.agg (av x).toArray] h fun v h' => v = .bool true ∧ h' = h := by
  refine ACalls.same .bool (acalls_of mix Tryd.func9 k9 n9 (by simp) fun hcl hb => ?_)
  have f0 := cellsOf_new h (av x) .ex 1
  have n0 : (h.push (.cells (av x) .ex 1)).n = h.n + 1 := rfl
  have e0 := (Heap.Ext.refl h).push hcl (.cells (av x) .ex 1)
  have c0 : (h.push (.cells (av x) .ex 1)).Closed := closed_push hcl av_bel
  obtain ⟨g0, g1, g2, g3, g7⟩ := av_get x
  have z3 : ([.int .i64 0, .int .i64 0, .int .i64 0] : List Value) = iv 0 0 0 := rfl
  simp only [c9, s_seq, s_ops]
  simp [mc_av]
  generalize h.push (.cells (av x) .ex 1) = H0 at *
  refine (awake28_ok H0).mono ?_
  rintro _ h9 ⟨rfl, e'⟩
  rw [e']; clear e' h9
  by_cases hs : 2000 < x.s.length
  · have hs' : (2000 : Int) < (x.s.length : Int) := by omega
    simp [aun, f0, g7, apart, bs_size, hs, hs']
    exact e0
  have hs' : ¬ (2000 : Int) < (x.s.length : Int) := by omega
  have fil1 : afill [.int .i64 0, .int .i64 0, .int .i64 0, .int .i64 0] [(0, 1, .int .i64 x.e), (1, 1, .int .i64 x.l), (2, 1, .int .i64 x.p), (3, 1, .int .i64 x.w)] = some ([x.e, x.l, x.p, x.w].map (Value.int .i64)) := rfl
  simp [aun, f0, g0, g1, g2, g3, g7, apart, bs_size, hs, hs', fil1]
  have fX := cellsOf_new H0 ([x.e, x.l, x.p, x.w].map (Value.int .i64)) .ex 1
  have e1 := e0.push hcl (.cells ([x.e, x.l, x.p, x.w].map (Value.int .i64)) .ex 1)
  have f01 : (H0.push (.cells ([x.e, x.l, x.p, x.w].map (Value.int .i64)) .ex 1)).cellsOf h.n = some (av x, .ex, 1) := by rw [cellsOf_ne (by omega)]; exact f0
  have c1 : (H0.push (.cells ([x.e, x.l, x.p, x.w].map (Value.int .i64)) .ex 1)).Closed := closed_push c0 fun v hv => by obtain ⟨y, _, rfl⟩ := List.mem_map.1 hv; exact .int
  have n1 : (H0.push (.cells ([x.e, x.l, x.p, x.w].map (Value.int .i64)) .ex 1)).n = h.n + 2 := by simp [n0]
  have hm4 : [Value.int .i64 x.e, Value.int .i64 x.l, Value.int .i64 x.p, Value.int .i64 x.w] = [x.e, x.l, x.p, x.w].map (Value.int .i64) := rfl
  try rw [hm4]
  rw [n0]
  rw [n0] at fX
  generalize H0.push (.cells ([x.e, x.l, x.p, x.w].map (Value.int .i64)) .ex 1) = H1 at *
  have hXl : [x.e, x.l, x.p, x.w].length = 4 := rfl
  have hXm : ∀ j (hj : j < 4), (([x.e, x.l, x.p, x.w].map (Value.int .i64))[j]? = some (.int .i64 ([x.e, x.l, x.p, x.w][j]'hj))) := fun j hj => by rw [List.getElem?_map, List.getElem?_eq_getElem (show j < [x.e, x.l, x.p, x.w].length from hj)]; rfl
  have hok : (∀ j (hj : j < 4), (-1000000 : Int) ≤ ([x.e, x.l, x.p, x.w][j]'hj) ∧ ([x.e, x.l, x.p, x.w][j]'hj) ≤ 1000000) → x.Ok := fun q => ⟨q 0 (by omega), q 1 (by omega), q 2 (by omega), q 3 (by omega), by omega⟩
  refine awp_loop_of (α := KS) (fun z => z.i ≤ 4 ∧ ∀ j (hj : j < 4), j < z.i → (-1000000 : Int) ≤ ([x.e, x.l, x.p, x.w][j]'hj) ∧ ([x.e, x.l, x.p, x.w][j]'hj) ≤ 1000000)
    (fun z => [(1, .pointer (some ⟨h.n, 0, none⟩)), (23, .slice (some ⟨h.n + 1, 0, none⟩) 4 4), (24, .int .i64 4), (25, .int .i64 z.i)]) (fun _ => H1) (fun z => 4 - z.i) ⟨0⟩
    ⟨Nat.zero_le _, fun j _ q => absurd q (Nat.not_lt_zero _)⟩ ⟨by have := e1.n; omega, Nat.le_refl _, fun _ _ e => e, c1⟩ (by simp; exact ⟨.ptr (by show h.n < H1.n; omega), vb_slice (by show h.n + 1 < H1.n; omega), .int, .int⟩) ?_
  rintro ⟨i⟩ ⟨hi, hall⟩
  dsimp only at hi hall ⊢
  by_cases hlt : i < 4
  · have hi' : (i : Int) < 4 := by omega
    have gX := hXm i hlt
    have w4 : IntKind.i64.wrap ((i : Int) + 1) = ((i + 1 : Nat) : Int) := w1 i (by omega)
    have iX : aidx (.int .i64 (i : Int)) 4 = some i := aidx_of hlt
    have hnext : ((-1000000 : Int) ≤ ([x.e, x.l, x.p, x.w][i]'hlt) ∧ ([x.e, x.l, x.p, x.w][i]'hlt) ≤ 1000000) → ∀ j (hj : j < 4), j < i + 1 → (-1000000 : Int) ≤ ([x.e, x.l, x.p, x.w][j]'hj) ∧ ([x.e, x.l, x.p, x.w][j]'hj) ≤ 1000000 := fun q j hj hji => by
      by_cases hj2 : j = i
      · subst hj2; exact q
      · exact hall j hj (by omega)
    generalize hxx : [x.e, x.l, x.p, x.w][i]'hlt = y at *
    generalize hXX : ([x.e, x.l, x.p, x.w].map (Value.int .i64)) = XX at *
    have e2 : h.Ext H1 := e1
    by_cases hy1 : y < -1000000
    · simp [c9_0, hi', iX, fX, gX, apart, hy1, w4, -Int.natCast_add]
      exact e1
    · by_cases hy2 : 1000000 < y
      · simp [c9_0, hi', iX, fX, gX, apart, hy1, hy2, w4, -Int.natCast_add]
        exact e1
      · simp [c9_0, hi', iX, fX, gX, apart, hy1, hy2, w4, -Int.natCast_add]
        exact ⟨⟨i + 1⟩, by show 4 - (i + 1) < 4 - i; omega, ⟨by show i + 1 ≤ 4; omega, hnext (by omega)⟩, ⟨by have := e1.n; omega, Nat.le_refl _, fun _ _ e => e, c1⟩, .ptr (by show h.n < H1.n; omega), vb_slice (by show h.n + 1 < H1.n; omega), .int, rfl, .int⟩
  · have hie : i = 4 := by omega
    subst hie
    have hx : x.Ok := hok fun j hj => hall j hj hj
    clear hall hok hXm hXl hi hlt
    have he := hx.e
    have L1 := t1B_len hx
    have L2 := t2B_len hx
    have L3 := t3B_len hx
    have LV := verB_len x.a x.b x.c
    have LW := word_len x.s
    have LS := hx.s
    simp [c9_0, f01, g0, apart]
    refine cond_join (fun f H' => f 1 = .pointer (some ⟨h.n, 0, none⟩) ∧ f 5 = sv (t1B x) ∧ H' = H1) ?_ ?_ ?_
    · intro hb1
      have he0 : ¬ x.e = 0 := by simpa using hb1
      have hl := itoaB_len x.e (by omega) (by omega)
      have ht : t1B x = [101, 114, 114, 111, 114, 32] ++ itoaB x.e := by unfold t1B; rw [if_neg he0]
      simp [f01, g0, apart]
      refine (num_ok x.e (by omega) (by omega) H1).mono ?_
      rintro _ h9 ⟨rfl, e'⟩
      rw [e']; clear e' h9
      simp (disch := first | exact trivial | (simp; done) | (simp; omega) | omega) [szif, bs_size, bs_append, bs_lit, sv]
      rw [ht]; rfl
    · intro hb1
      have he0 : x.e = 0 := by simpa using hb1
      have ht : t1B x = [111, 107] := by unfold t1B; rw [if_pos he0]
      simp [bs_lit]
      rw [ht]; rfl
    · rintro f H' ⟨k1, k5, rfl⟩
      have fil2 : afill (iv 0 0 0) [(0, 1, .int .i64 x.l), (1, 1, .int .i64 x.p), (2, 1, .int .i64 x.w)] = some ([x.l, x.p, x.w].map (Value.int .i64)) := rfl
      have fY := cellsOf_new H' ([x.l, x.p, x.w].map (Value.int .i64)) .ex 1
      have f02 : (H'.push (.cells ([x.l, x.p, x.w].map (Value.int .i64)) .ex 1)).cellsOf h.n = some (av x, .ex, 1) := by rw [cellsOf_ne (by omega)]; exact f01
      have e2 := e1.push hcl (.cells ([x.l, x.p, x.w].map (Value.int .i64)) .ex 1)
      have c2 : (H'.push (.cells ([x.l, x.p, x.w].map (Value.int .i64)) .ex 1)).Closed := closed_push c1 fun v hv => by obtain ⟨y, _, rfl⟩ := List.mem_map.1 hv; exact .int
      have n2 : (H'.push (.cells ([x.l, x.p, x.w].map (Value.int .i64)) .ex 1)).n = H'.n + 1 := rfl
      simp [k1, k5, z3, bs_lit, fil2, f01, g1, g2, g3, apart]
      have hm3 : [Value.int .i64 x.l, Value.int .i64 x.p, Value.int .i64 x.w] = [x.l, x.p, x.w].map (Value.int .i64) := rfl
      try rw [hm3]
      have hYm : ∀ j (hj : j < 3), (([x.l, x.p, x.w].map (Value.int .i64))[j]? = some (.int .i64 ([x.l, x.p, x.w][j]'hj))) := fun j hj => by rw [List.getElem?_map, List.getElem?_eq_getElem (show j < [x.l, x.p, x.w].length from hj)]; rfl
      have hXr := hx.X
      have hpr := prs_take telN [x.l, x.p, x.w]
      generalize hH2 : H'.push (.cells ([x.l, x.p, x.w].map (Value.int .i64)) .ex 1) = H2 at *
      generalize hXX : ([x.l, x.p, x.w].map (Value.int .i64)) = XX at *
      refine awp_loop_of (α := LTS) (fun z => z.i ≤ 3 ∧ (t1B x).length + (prs (telN.take z.i) ([x.l, x.p, x.w].take z.i)).length ≤ 30 + z.i * 200 ∧ Gr H2 z.H)
        (fun z => [(1, .pointer (some ⟨h.n, 0, none⟩)), (5, sv (t1B x ++ prs (telN.take z.i) ([x.l, x.p, x.w].take z.i))), (49, .slice (some ⟨H'.n, 0, none⟩) 3 3), (50, .int .i64 3), (51, .int .i64 z.i)]) (fun z => z.H) (fun z => 3 - z.i) ⟨0, H2⟩
        ⟨Nat.zero_le _, by simp [prs]; omega, Gr.refl' c2⟩ ⟨by have := e2.n; show h.n ≤ H2.n; omega, Nat.le_refl _, fun _ _ e => e, c2⟩ (by simp [prs, k1, k5]; exact ⟨.ptr (by show h.n < H2.n; omega), .string, vb_slice (by show H'.n < H2.n; omega), .int, .int⟩) ?_
      rintro ⟨i, H⟩ ⟨hi, hlen, hg⟩
      dsimp only at hi hlen hg ⊢
      have f03 : H.cellsOf h.n = some (av x, .ex, 1) := cellsOf_keep hg.m f02
      have fY3 : H.cellsOf H'.n = some (XX, .ex, 1) := cellsOf_keep hg.m fY
      have hgn := hg.n
      by_cases hlt : i < 3
      · have hi' : (i : Int) < 3 := by omega
        have gX := hYm i hlt
        have w4 : IntKind.i64.wrap ((i : Int) + 1) = ((i + 1 : Nat) : Int) := w1 i (by omega)
        have iX : aidx (.int .i64 (i : Int)) 3 = some i := aidx_of hlt
        have htk := hpr i hlt hlt
        have hyr := hXr _ (List.getElem_mem (l := [x.l, x.p, x.w]) (n := i) hlt)
        have hnl := telN_len _ (List.getElem_mem (l := telN) (n := i) hlt)
        have gN := tel2_get i hlt
        generalize hxx : [x.l, x.p, x.w][i]'hlt = y at *
        generalize hnn : telN[i]'hlt = nm at *
        generalize hG : prs (telN.take i) ([x.l, x.p, x.w].take i) = G at *
        by_cases hy0 : y = 0
        · have h0 : prI nm y = [] := by unfold prI; rw [if_pos hy0]
          rw [h0, List.append_nil] at htk
          simp [c9_2, hi', iX, fY3, gX, apart, hy0, w4, -Int.natCast_add]
          exact ⟨⟨i + 1, H⟩, by show 3 - (i + 1) < 3 - i; omega, ⟨by show i + 1 ≤ 3; omega, by show (t1B x).length + (prs (telN.take (i + 1)) ([x.l, x.p, x.w].take (i + 1))).length ≤ 30 + (i + 1) * 200; rw [htk]; omega, hg⟩, ⟨by have := e2.n; show h.n ≤ H.n; omega, Nat.le_refl _, fun _ _ e => e, hg.cl⟩, .ptr (by show h.n < H.n; omega), ⟨by show sv _ = sv (t1B x ++ prs (telN.take (i + 1)) ([x.l, x.p, x.w].take (i + 1))); rw [htk], .string⟩, vb_slice (by show H'.n < H.n; omega), .int, rfl, .int⟩
        · have h0 : prI nm y = 32 :: (nm ++ 32 :: itoaB y) := by unfold prI; rw [if_neg hy0]
          rw [h0] at htk
          have hil := itoaB_len y (by omega) (by omega)
          have fil3 : afill [.string (bs []), .string (bs []), .string (bs [])] [(0, 1, .string (bs [32, 115, 108, 111, 116, 32])), (1, 1, .string (bs [32, 97, 116, 32])), (2, 1, .string (bs [32, 119, 104, 97, 116, 32]))] = some (tel2.map sv) := rfl
          have fN := cellsOf_new H (tel2.map sv) .ex 1
          have hg3 : Gr H2 (H.push (.cells (tel2.map sv) .ex 1)) := hg.push fun v hv => by obtain ⟨y, _, rfl⟩ := List.mem_map.1 hv; exact .string
          have hfin : ∀ v, v = .string (bs (t1B x ++ G ++ (32 :: (nm ++ [32]) ++ itoaB y))) → v = sv (t1B x ++ prs (telN.take (i + 1)) ([x.l, x.p, x.w].take (i + 1))) := fun v hv => by
            rw [hv, htk]; simp [sv]
          have hL : (t1B x).length + (prs (telN.take (i + 1)) ([x.l, x.p, x.w].take (i + 1))).length ≤ 30 + (i + 1) * 200 := by
            rw [htk]; simp at hlen ⊢; omega
          simp [c9_2, hi', iX, fY3, gX, apart, hy0, bs_lit, -Int.natCast_add]
          refine ⟨?_, ?_⟩
          · simp (disch := first | exact trivial | (simp; done) | (simp; omega) | omega) [szif, bs_size, bs_append, bs_lit, sv, fil3, iX, fN, gN, apart, w4, -Int.natCast_add]
            refine (num_ok y (by omega) (by omega) _).mono ?_
            rintro _ h9 ⟨rfl, e'⟩
            rw [e']; clear e' h9
            simp (disch := first | exact trivial | (simp; done) | (simp at hlen ⊢; omega) | (simp; omega) | omega) [szif, bs_size, bs_append, bs_lit, sv, fil3, iX, fN, gN, apart, w4, -Int.natCast_add]
            exact ⟨⟨i + 1, H.push (.cells (tel2.map sv) .ex 1)⟩, by show 3 - (i + 1) < 3 - i; omega, ⟨by show i + 1 ≤ 3; omega, hL, hg3⟩, ⟨by have := e2.n; show h.n ≤ H.n + 1; omega, Nat.le_refl _, fun _ _ e => e, hg3.cl⟩, .ptr (by show h.n < H.n + 1; omega), ⟨by show bs (t1B x ++ (G ++ 32 :: (nm ++ 32 :: itoaB y))) = bs (t1B x ++ prs (telN.take (i + 1)) ([x.l, x.p, x.w].take (i + 1))); rw [htk], .string⟩, vb_slice (by show H'.n < H.n + 1; omega), .int, rfl, .int⟩
          · refine (num_ok y (by omega) (by omega) H).mono ?_
            rintro _ h9 ⟨rfl, e'⟩
            rw [e']; clear e' h9
            simp (disch := first | exact trivial | (simp; done) | (simp at hlen ⊢; omega) | (simp; omega) | omega) [szif, bs_size, bs_append, bs_lit, sv, fil3, iX, fN, gN, apart, w4, -Int.natCast_add]
            exact ⟨⟨i + 1, H.push (.cells (tel2.map sv) .ex 1)⟩, by show 3 - (i + 1) < 3 - i; omega, ⟨by show i + 1 ≤ 3; omega, hL, hg3⟩, ⟨by have := e2.n; show h.n ≤ H.n + 1; omega, Nat.le_refl _, fun _ _ e => e, hg3.cl⟩, .ptr (by show h.n < H.n + 1; omega), ⟨by show bs (t1B x ++ (G ++ 32 :: (nm ++ 32 :: itoaB y))) = bs (t1B x ++ prs (telN.take (i + 1)) ([x.l, x.p, x.w].take (i + 1))); rw [htk], .string⟩, vb_slice (by show H'.n < H.n + 1; omega), .int, rfl, .int⟩
      · have hie : i = 3 := by omega
        subst hie
        rw [List.take_of_length_le (show telN.length ≤ 3 from Nat.le_refl _), List.take_of_length_le (show [x.l, x.p, x.w].length ≤ 3 from Nat.le_refl _)]
        have ht2 : t1B x ++ prs telN [x.l, x.p, x.w] = t2B x := rfl
        have eH : h.Ext H := ⟨by have := e2.n; omega, fun y ob q => hg.m y ob (e2.m y ob q)⟩
        have hvB : (if vOk x.a x.b x.c then vtext x.a x.b x.c else []) = verB x.a x.b x.c := rfl
        clear hYm hXr hpr
        simp [c9_2, ht2, f03, z3, acut_av4, iv_eq, apart]
        refine cond_join (fun f H' => f 1 = .pointer (some ⟨h.n, 0, none⟩) ∧ f 5 = sv (t3B x) ∧ H' = H) ?_ ?_ ?_
        · intro hb1
          have hn : ¬ (x.a = 0 ∧ x.b = 0 ∧ x.c = 0) := fun ⟨a1, a2, a3⟩ => by simp [a1, a2, a3] at hb1
          have ht : t3B x = t2B x ++ ([32, 118, 101, 114, 115, 105, 111, 110, 32] ++ verB x.a x.b x.c) := by unfold t3B; rw [if_neg hn]
          simp [f03, acut_av4, apart, bs_lit]
          refine (refRight_ok x.a x.b x.c H).mono ?_
          rintro _ h9 ⟨rfl, e'⟩
          rw [e']; clear e' h9
          by_cases hv : vOk x.a x.b x.c
          · rw [if_pos hv] at hvB
            simp [hv, f03, acut_av4, apart]
            refine (refText_ok x.a x.b x.c hv H).mono ?_
            rintro _ h9 ⟨rfl, e'⟩
            rw [e']; clear e' h9
            rw [hvB]
            simp (disch := first | exact trivial | (simp; done) | (simp; omega) | omega) [szif, bs_size, bs_append, bs_lit, sv]
            rw [ht]; simp
          · rw [if_neg hv] at hvB
            rw [← hvB] at ht
            simp (disch := first | exact trivial | (simp; done) | (simp; omega) | omega) [hv, szif, bs_size, bs_append, bs_lit, sv]
            rw [ht]; simp
        · intro hb1
          have hn : x.a = 0 ∧ x.b = 0 ∧ x.c = 0 := by simpa using hb1
          have ht : t3B x = t2B x := by unfold t3B; rw [if_pos hn]
          simp
          rw [ht]
        · rintro f H3 ⟨k1, k5, rfl⟩
          simp [k1, k5, f03, g7, apart, bs_lit]
          refine cond_join (fun f H' => f 1 = .pointer (some ⟨h.n, 0, none⟩) ∧ f 5 = sv (t4B x) ∧ H' = H3) ?_ ?_ ?_
          · intro hb1
            have hn : ¬ x.s = [] := by simpa [bs_inj] using hb1
            have ht : t4B x = t3B x ++ ([32, 105, 109, 97, 103, 101, 32] ++ wordB x.s) := by unfold t4B; rw [if_neg hn]
            simp [k1, k5, f03, g7, apart]
            refine (refTx_ok x.s (by omega) H3).mono ?_
            rintro _ h9 ⟨rfl, e'⟩
            rw [e']; clear e' h9
            simp (disch := first | exact trivial | (simp; done) | (simp; omega) | omega) [szif, bs_size, bs_append, bs_lit, sv]
            rw [ht]; simp [sv, k1]
          · intro hb1
            have hn : x.s = [] := by simpa [bs_inj] using hb1
            have ht : t4B x = t3B x := by unfold t4B; rw [if_pos hn]
            simp [k1, k5]
            rw [ht]
          · rintro f H4 ⟨k1, k5, rfl⟩
            simp [k1, k5, f03, acut_av, apart]
            refine (tell_ok x hx H4).mono ?_
            rintro _ h9 ⟨rfl, e'⟩
            rw [e']; clear e' h9
            simp [k5, sv]
            exact eH
/-! an answer comes in -/
section
open Go.RowKit Go.ChangeShapes Go.WideShapes
variable {H : Type} {W : World} {enc : TypeId × Value → H}
theorem trod_ints3 {t te : TypeId} {n : Nat} (ht : Tryd.prog.underlying t = some (.array n te)) (hti : Tryd.prog.underlying te = some (.int .i64)) (hn : Tryd.prog.cellsOf t = n) (hc1 : Tryd.prog.cellsOf te = 1)
    {b : Nat} {sp : Nat → Bool} {hh : Bool} {fuel : Nat} {cs : List Value} {x : DataW H × List MemPlace} (h : DataW.trod enc Tryd.prog W b sp hh fuel t cs = some x) :
    ∃ is : List Int, cs = is.map (Value.int .i64) ∧ is.length = n := by
  obtain ⟨xs, m, _, _, hl0, hl, hx⟩ := DataW.trod_array ht h
  obtain ⟨is, h1, h2⟩ := ints_of (enc := enc) (W := W) (sp := sp) (hd := hh) (b := b) hti (cs := cs) fun c hc => by
    obtain ⟨i, hi, rfl⟩ := List.mem_iff_getElem.1 hc
    have hin : i < n := by omega
    have := hx i hin
    rw [hc1, Nat.mul_one, List.getElem?_eq_getElem (by omega)] at this
    refine ⟨m, xs[i]'(by omega), ?_⟩
    rw [show [cs[i]] = List.take 1 (List.drop i cs) by rw [List.drop_eq_getElem_cons hi]; rfl]
    exact this
  refine ⟨is, h1, ?_⟩
  have := congrArg List.length h1
  simp at this
  omega
theorem an_elem {sp : Nat → Bool} {hd : Bool} {bb : Nat} {fuel : Nat} {x : DataW H × List MemPlace} {cs : List Value} (h : DataW.trod enc Tryd.prog W bb sp hd fuel 72 cs = some x) :
    ∃ e : An, cs = av e := by
  obtain ⟨xs, m, _, _, hl0, hl, hx⟩ := DataW.trod_struct Tryd.underlying72 h
  have h8 : Tryd.prog.cellsOf 72 = 8 := by kernel_rfl
  have ce : Tryd.prog.cellsOf 40 = 1 := by kernel_rfl
  have c3 : Tryd.prog.cellsOf 3 = 1 := by kernel_rfl
  have cv : Tryd.prog.cellsOf 37 = 3 := by kernel_rfl
  have c9 : Tryd.prog.cellsOf 9 = 1 := by kernel_rfl
  rw [h8] at hl0
  have hl4 : xs.length = 6 := hl
  match cs, hl0 with
  | [a0, a1, a2, a3, a4, a5, a6, a7], _ =>
    match xs, hl4 with
    | [x0, x1, x2, x3, x4, x5], _ =>
      have f0 : DataW.trod enc Tryd.prog W bb sp hd m 40 [a0] = some x0 := by
        have q : DataW.trod enc Tryd.prog W bb sp hd m 40 (([a0, a1, a2, a3, a4, a5, a6, a7].drop 0).take (Tryd.prog.cellsOf 40)) = some x0 := hx 0 _ rfl
        rw [ce] at q
        exact q
      have f1 : DataW.trod enc Tryd.prog W bb sp hd m 3 [a1] = some x1 := by
        have q : DataW.trod enc Tryd.prog W bb sp hd m 3 (([a0, a1, a2, a3, a4, a5, a6, a7].drop 1).take (Tryd.prog.cellsOf 3)) = some x1 := hx 1 _ rfl
        rw [c3] at q
        exact q
      have f2 : DataW.trod enc Tryd.prog W bb sp hd m 3 [a2] = some x2 := by
        have q : DataW.trod enc Tryd.prog W bb sp hd m 3 (([a0, a1, a2, a3, a4, a5, a6, a7].drop 2).take (Tryd.prog.cellsOf 3)) = some x2 := hx 2 _ rfl
        rw [c3] at q
        exact q
      have f3 : DataW.trod enc Tryd.prog W bb sp hd m 3 [a3] = some x3 := by
        have q : DataW.trod enc Tryd.prog W bb sp hd m 3 (([a0, a1, a2, a3, a4, a5, a6, a7].drop 3).take (Tryd.prog.cellsOf 3)) = some x3 := hx 3 _ rfl
        rw [c3] at q
        exact q
      have f4 : DataW.trod enc Tryd.prog W bb sp hd m 37 [a4, a5, a6] = some x4 := by
        have q : DataW.trod enc Tryd.prog W bb sp hd m 37 (([a0, a1, a2, a3, a4, a5, a6, a7].drop 4).take (Tryd.prog.cellsOf 37)) = some x4 := hx 4 _ rfl
        rw [cv] at q
        exact q
      have f5 : DataW.trod enc Tryd.prog W bb sp hd m 9 [a7] = some x5 := by
        have q : DataW.trod enc Tryd.prog W bb sp hd m 9 (([a0, a1, a2, a3, a4, a5, a6, a7].drop 7).take (Tryd.prog.cellsOf 9)) = some x5 := hx 5 _ rfl
        rw [c9] at q
        exact q
      obtain ⟨n0, e0, _, _⟩ := DataW.trod_int Tryd.underlying40 (x := x0) f0
      obtain ⟨n1, e1, _, _⟩ := DataW.trod_int Tryd.underlying3 (x := x1) f1
      obtain ⟨n2, e2, _, _⟩ := DataW.trod_int Tryd.underlying3 (x := x2) f2
      obtain ⟨n3, e3, _, _⟩ := DataW.trod_int Tryd.underlying3 (x := x3) f3
      obtain ⟨is, e4, l4⟩ := trod_ints3 (n := 3) (x := x4) Tryd.underlying37 Tryd.underlying3 cv c3 f4
      obtain ⟨s5, e5, _, _⟩ := DataW.trod_string Tryd.underlying9 (x := x5) f5
      match is, l4 with
      | [b0, b1, b2], _ =>
        simp at e0 e1 e2 e3 e4 e5
        refine ⟨⟨n0, n1, n2, n3, b0, b1, b2, s5.data.toList⟩, ?_⟩
        rw [e0, e1, e2, e3, e4.1, e4.2.1, e4.2.2, e5, bs_of s5]
        simp [av, sv, bs_data]
theorem open_answer {v : Value} {d : DataW H} {ps : List MemPlace} {r : Reach} {b : Nat} (hval : Value.okWide Tryd.prog W r b 72 v) {sp : Nat → Bool} {hh : Bool} {bb : Nat} (hd : DataW.Trod enc Tryd.prog W bb sp hh 72 v d ps) :
    ∃ e : An, v = .agg (av e).toArray := by
  obtain ⟨cs, rfl, hsz⟩ := okWide_struct Tryd.underlying72 hval
  obtain ⟨fuel, h⟩ := hd
  obtain ⟨e, h1⟩ := an_elem h
  have h3 : cs.toList = av e := h1
  exact ⟨e, by rw [← h3]⟩
theorem rel_answer (μ : Mu) (e : An) : VRel μ (.agg (av e).toArray) (.agg (av e).toArray) := by
  have key : ∀ i, i < 8 → VRel μ ((av e).toArray.getD i unk) ((av e).toArray.getD i unk) ∧ ((av e).toArray.getD i unk).oneCell' = true := fun i hi => by
    match i, hi with
    | 0, _ => exact ⟨.int, rfl⟩
    | 1, _ => exact ⟨.int, rfl⟩
    | 2, _ => exact ⟨.int, rfl⟩
    | 3, _ => exact ⟨.int, rfl⟩
    | 4, _ => exact ⟨.int, rfl⟩
    | 5, _ => exact ⟨.int, rfl⟩
    | 6, _ => exact ⟨.int, rfl⟩
    | 7, _ => exact ⟨.string, rfl⟩
  exact .agg rfl (fun i hi => (key i hi).1) (fun i hi => (key i hi).2)
end
end Go.Proofs.YtpcnpnddkgdaeaaDoor.lint
