/-
  Contracts.
-/
import Derived.Test.YtikpgnkegnedoaaGreatArbe
import Derived.Test.YtikpgnkegnedoaaGreatArbd
import Derived.Test.YtikpgnkegnedoaaGreatArbc
import Derived.Test.YtikpgnkegnedoaaGreatArbb
import Derived.Test.YtikpgnkegnedoaaGreatArba
import Derived.Test.YtikpgnkegnedoaaGreatSha
import Derived.Test.YtikpgnkegnedoaaGreatLin1
import Derived.Test.YtikpgnkegnedoaaGreatVers
import Derived.Test.YtikpgnkegnedoaaGreatStr
import Derived.Test.YtikpgnkegnedoaaGreatAbEnter
import Derived.Test.YtikpgnkegnedoaaGreatAbStep
import Derived.Test.YtikpgnkegnedoaaGreatProg
import Derived.IntWalk
import Derived.KernelRfl
set_option linter.unusedSimpArgs false
set_option linter.unusedVariables false
set_option linter.unusedSectionVars false
namespace Go.Proofs.YtikpgnkegnedoaaGreat.arbf
open Go Go.Ab Go.Proofs Go.RowKit Go.Proofs.YtikpgnkegnedoaaGreat.str Go.Proofs.YtikpgnkegnedoaaGreat.vers Go.Proofs.YtikpgnkegnedoaaGreat.lin1 Go.Proofs.YtikpgnkegnedoaaGreat.sha Go.Proofs.YtikpgnkegnedoaaGreat.arba Go.Proofs.YtikpgnkegnedoaaGreat.arbb Go.Proofs.YtikpgnkegnedoaaGreat.arbc Go.Proofs.YtikpgnkegnedoaaGreat.arbd Go.Proofs.YtikpgnkegnedoaaGreat.arbe
variable [Inhabited TabBox]
variable [Nonempty GF]
variable [Nonempty GE]
set_option maxRecDepth 100000
attribute [local simp] s_ops s_seq s_cond s_cond_t s_cond_f s_block s_exit s_ret s_skip s_then_n s_then_n' s_then_e s_then_e' s_then_r s_then_r' s_block_n s_block_r s_block_e s_post_r s_post_n s_res0 s_res1 s_res2 s_res3 s_res4 s_nil s_cons s_guard s_guard_tt s_guard_ff s_guard_tf s_guard_ft s_guard_u s_call s_kL s_put s_put0 s_set s_tmp s_const s_func s_glob s_init s_mkF s_mkF0 s_mv s_bin s_pick s_op aop oK_some oK_none bK_some bK_none b_add b_sub b_mul b_quo b_rem b_and b_or b_xor b_andNot b_shl b_shr b_eql b_neq b_lss b_leq b_gtr b_geq b_sadd b_seql b_sneq b_slss b_sleq b_sgtr b_sgeq s_draw s_drawT s_tK s_tT s_tF s_tB s_tR s_stage s_stage0 s_kW s_kR s_rc0 s_rc s_rcg rK_some rK_none rG_b rG_u s_callv s_callv_f s_nextM s_postR_r s_postR_n s_resA0 s_resAt s_resAc s_resC s_tup0 s_tup1 s_tup2 s_tup3
def c42 : AC := .seq (.ops [⟨some 4,none,.mv (.const (.pointer none))⟩,⟨some 5,none,.mv (.const (.int .i64 0))⟩]) (.seq (.seq (.ops [⟨some 6,none,.mv (.tmp 0)⟩,⟨some 7,none,.eqv false .ptr (.tmp 6) (.const (.pointer none))⟩,⟨some 8,none,.mv (.tmp 7)⟩,⟨some 9,some (8,false),.mv (.tmp 1)⟩,⟨some 10,some (8,false),.eqv false .ptr (.tmp 9) (.const (.pointer none))⟩,⟨some 11,none,.pick (.tmp 8) (.const (.bool true)) (.tmp 10)⟩,⟨some 12,none,.mv (.tmp 11)⟩,⟨some 13,some (12,false),.mv (.tmp 0)⟩,⟨some 14,some (12,false),.call 66 [.tmp 13]⟩,⟨some 15,some (12,false),.mv (.tmp 1)⟩,⟨some 16,some (12,false),.call 67 [.tmp 15]⟩,⟨some 17,some (12,false),.call 40 [.tmp 16]⟩,⟨some 18,some (12,false),.bin .lss (.tmp 14) (.tmp 17)⟩,⟨some 19,none,.pick (.tmp 12) (.const (.bool true)) (.tmp 18)⟩]) (.cond (.tmp 19) (.seq (.ops [⟨some 4,none,.mv (.const (.pointer none))⟩,⟨some 5,none,.mv (.const (.int .i64 1))⟩]) .ret) .skip)) (.seq (.ops [⟨some 20,none,.mv (.tmp 1)⟩,⟨some 21,none,.mv (.tmp 0)⟩,⟨some 22,none,.mv (.tmp 1)⟩,⟨some 23,none,.call 67 [.tmp 22]⟩,⟨some 24,none,.build [.pointer none,.pointer none,.int .i64 0,.int .i64 0,.int .i64 0] [(0,1,.tmp 20),(1,1,.tmp 21),(2,3,.tmp 23)]⟩,⟨some 25,none,.box (.tmp 24)⟩,⟨some 4,none,.mv (.tmp 25)⟩,⟨some 5,none,.mv (.const (.int .i64 0))⟩]) .ret))
theorem k42 : compF Tryz.prog Tryz.f42 = some (c42, [4, 5]) := by kernel_rfl
theorem n42 : Tryz.f42.ntmps = 26 := by kernel_rfl
def c13 : AC := .seq (.ops [⟨some 1,none,.box (.tmp 0)⟩,⟨some 2,none,.mv (.const (.pointer none))⟩,⟨some 3,none,.mv (.const (.pointer none))⟩]) (.seq (.ops [⟨some 11,none,.load (some 3) (.tmp 1)⟩,⟨some 12,none,.call 40 [.tmp 11]⟩,⟨some 13,none,.call 39 [.tmp 12]⟩,⟨some 10,none,.mv (.tmp 13)⟩,⟨some 14,none,.extr (.tmp 10) 0⟩,⟨some 15,none,.extr (.tmp 10) 1⟩,⟨some 4,none,.mv (.tmp 14)⟩,⟨some 5,none,.mv (.tmp 15)⟩]) (.seq (.ops [⟨some 17,none,.load (some 3) (.tmp 1)⟩,⟨some 18,none,.call 41 [.tmp 17]⟩,⟨some 16,none,.mv (.tmp 18)⟩,⟨some 19,none,.extr (.tmp 16) 0⟩,⟨some 20,none,.extr (.tmp 16) 1⟩,⟨some 6,none,.mv (.tmp 19)⟩,⟨some 7,none,.mv (.tmp 20)⟩]) (.seq (.ops [⟨some 22,none,.mv (.tmp 4)⟩,⟨some 23,none,.mv (.tmp 6)⟩,⟨some 24,none,.call 42 [.tmp 22,.tmp 23]⟩,⟨some 21,none,.mv (.tmp 24)⟩,⟨some 25,none,.extr (.tmp 21) 0⟩,⟨some 26,none,.extr (.tmp 21) 1⟩,⟨some 8,none,.mv (.tmp 25)⟩,⟨some 9,none,.mv (.tmp 26)⟩]) (.seq (.seq (.ops [⟨some 27,none,.mv (.tmp 5)⟩,⟨some 28,none,.bin .neq (.tmp 27) (.const (.int .i64 0))⟩,⟨some 29,none,.mv (.tmp 28)⟩,⟨some 30,some (29,false),.mv (.tmp 7)⟩,⟨some 31,some (29,false),.bin .neq (.tmp 30) (.const (.int .i64 0))⟩,⟨some 32,none,.pick (.tmp 29) (.const (.bool true)) (.tmp 31)⟩,⟨some 33,none,.mv (.tmp 32)⟩,⟨some 34,some (33,false),.mv (.tmp 9)⟩,⟨some 35,some (33,false),.bin .neq (.tmp 34) (.const (.int .i64 0))⟩,⟨some 36,none,.pick (.tmp 33) (.const (.bool true)) (.tmp 35)⟩]) (.cond (.tmp 36) (.seq (.ops [⟨some 2,none,.mv (.const (.pointer none))⟩,⟨some 3,none,.mv (.const (.pointer none))⟩]) .ret) .skip)) (.seq (.ops [⟨some 37,none,.mv (.tmp 8)⟩,⟨some 38,none,.mv (.tmp 4)⟩,⟨some 2,none,.mv (.tmp 37)⟩,⟨some 3,none,.mv (.tmp 38)⟩]) .ret)))))
theorem k13 : compF Tryz.prog Tryz.f13 = some (c13, [2, 3]) := by kernel_rfl
theorem n13 : Tryz.f13.ntmps = 39 := by kernel_rfl
theorem dev0_u (n : Nat) (hn : n ≤ 512) : DevU (dev0 n) := ⟨rfl, by show (-1 : Int) < 0; decide, by simp [dev0], by simp [dev0], by simpa [dev0] using hn⟩
theorem arnew_ok (d x y z c k s f : Nat) (gw : Value) (D P S n1 : Nat) (V : DevS) (hr : right D P S = true) (h : Heap) (kc : CodK (frm h n1) c k s f gw D P S) (kd : DevK h d x y z V) (hlo : d < n1 ∧ x < n1 ∧ y < n1 ∧ z < n1) (hn1 : n1 ≤ h.n) (hu : DevU V) (hsz : allS D P S ≤ V.lock.length) :
    ACalls Tryz.prog 42 [.pointer (some ⟨d, 0, none⟩), .pointer (some ⟨c, 0, none⟩)] h fun r h' => ∃ A : ArB, r = .tuple #[.pointer (some ⟨A.a, 0, none⟩), .int .i64 0] ∧ ArK h' A V ∧ Gr h h' ∧ h.n ≤ A.a ∧ A.c = c ∧ A.d = d ∧ A.x = x ∧ A.y = y ∧ A.z = z ∧ A.D = D ∧ A.P = P ∧ A.S = S ∧ A.n1 = n1 := by
  refine acalls_of mix Tryz.func42 k42 n42 (by simp) fun hcl hb => ?_
  have hq : ∀ p, aeq .ptr (.pointer (some p)) (.pointer none) = some false := fun _ => rfl
  have kc' := kc.keep (from_gr hcl n1)
  simp [c42, hq]
  refine (sectors_ok d x y z V h kd).mono ?_
  rintro _ h9 ⟨rfl, e⟩
  rw [e]; clear e h9
  simp
  refine (cgeo_ok c k s f gw D P S h kc').mono ?_
  rintro _ h9 ⟨rfl, e⟩
  rw [e]; clear e h9
  simp
  refine (all_ok D P S h).mono ?_
  rintro _ h9 ⟨rfl, e⟩
  rw [e]; clear e h9
  have hlt : ¬ ((V.lock.length : Int) < allS D P S) := by omega
  simp [hlt]
  refine (cgeo_ok c k s f gw D P S h kc').mono ?_
  rintro _ h9 ⟨rfl, e⟩
  rw [e]; clear e h9
  have fil : afill [.pointer none, .pointer none, .int .i64 0, .int .i64 0, .int .i64 0] [(0, 1, .pointer (some ⟨c, 0, none⟩)), (1, 1, .pointer (some ⟨d, 0, none⟩)), (2, 3, gv D P S)] = some [.pointer (some ⟨c, 0, none⟩), .pointer (some ⟨d, 0, none⟩), .int .i64 D, .int .i64 P, .int .i64 S] := rfl
  have bd := cellsOf_lt hcl kd.cd
  have bc := cellsOf_lt hcl kc'.cc
  have c1 : (h.push (.cells [.pointer (some ⟨c, 0, none⟩), .pointer (some ⟨d, 0, none⟩), .int .i64 D, .int .i64 P, .int .i64 S] .ex 1)).Closed := closed_push hcl (fun v hv => by
    simp at hv
    rcases hv with rfl | rfl | rfl | rfl | rfl
    · exact .ptr (by show c < _; omega)
    · exact .ptr (by show d < _; omega)
    · exact .int
    · exact .int
    · exact .int)
  have g1 : Gr h (h.push (.cells [.pointer (some ⟨c, 0, none⟩), .pointer (some ⟨d, 0, none⟩), .int .i64 D, .int .i64 P, .int .i64 S] .ex 1)) := ⟨Nat.le_succ _, c1, keep_push hcl _⟩
  have f1 := cellsOf_new h [.pointer (some ⟨c, 0, none⟩), .pointer (some ⟨d, 0, none⟩), .int .i64 D, .int .i64 P, .int .i64 S] .ex 1
  simp [fil, mcells]
  refine ⟨⟨h.n, c, k, s, f, gw, d, x, y, z, D, P, S, n1⟩, rfl, ⟨hr, f1, ?_, kd.keepM fun u ob e _ => g1.m u ob e, ⟨hlo.1, hlo.2.1, hlo.2.2.1, hlo.2.2.2, hn1⟩, hu, hsz⟩, g1, Nat.le_refl _, rfl, rfl, rfl, rfl, rfl, rfl, rfl, rfl, rfl⟩
  refine kc.keep ⟨Nat.le_succ _, fun b o e => c1 b o (from_m e).2, fun b o e => ?_⟩
  obtain ⟨q1, q2⟩ := from_m e
  show (if n1 ≤ b then _ else none) = some o
  rw [if_pos q1]
  exact g1.m b o q2
theorem fresh_ok (D P S : Nat) (hr : right D P S = true) (h : Heap) :
    ACalls Tryz.prog 13 [gv D P S] h fun r h' => ∃ A : ArB, r = .tuple #[.pointer (some ⟨A.a, 0, none⟩), .pointer (some ⟨A.d, 0, none⟩)] ∧ ArK h' A (dev0 (allS D P S).toNat) ∧ Gr h h' ∧ h.n ≤ A.a ∧ h.n ≤ A.d ∧ h.n ≤ A.x ∧ h.n ≤ A.y ∧ h.n ≤ A.z ∧ A.D = D ∧ A.P = P ∧ A.S = S := by
  refine acalls_of mix Tryz.func13 k13 n13 (by simp) fun hcl hb => ?_
  have c1 : (h.push (.cells [.int .i64 D, .int .i64 P, .int .i64 S] .ex 1)).Closed := closed_push hcl (fun x hx => by simp at hx; rcases hx with rfl | rfl | rfl <;> exact .int)
  have g1 : Gr h (h.push (.cells [.int .i64 D, .int .i64 P, .int .i64 S] .ex 1)) := ⟨Nat.le_succ _, c1, keep_push hcl _⟩
  have f1 := cellsOf_new h [.int .i64 D, .int .i64 P, .int .i64 S] .ex 1
  simp [c13, gvm, f1, apart, gvc, gva]
  generalize h.push (.cells [.int .i64 D, .int .i64 P, .int .i64 S] .ex 1) = H1 at *
  refine (all_ok D P S H1).mono ?_
  rintro _ h9 ⟨rfl, e⟩
  rw [e]; clear e h9
  obtain ⟨⟨hd1, hd8⟩, ⟨hp2, hp6⟩, hn1, hn8⟩ := right_prop.1 hr
  have ha1 : 18 ≤ allS (D : Int) P S := by
    unfold allS
    rw [if_pos hr]
    have := (slot_bound (d := (D : Int)) (p := P) (s := S)).1
    omega
  have ha2 : allS (D : Int) P S ≤ 354 := allS_le
  obtain ⟨n, hn⟩ : ∃ n : Nat, (allS (D : Int) P S) = n := ⟨(allS (D : Int) P S).toNat, by omega⟩
  rw [hn] at ha1 ha2 ⊢
  have hnt : ((n : Int)).toNat = n := rfl
  rw [hnt]
  simp
  refine (fnew_ok n (by omega) (by omega) H1).mono' ?_
  rintro _ H2 c2 _ ⟨d, x, y, z, rfl, k2, hd, hx, hy, hz, g2⟩
  have g12 := g1.trans g2
  have f2 := cellsOf_keep g2.m f1
  simp [f2, apart, gvc, gva]
  refine (snew_ok D P S hr H2).mono' ?_
  rintro _ H3 c3 _ ⟨c, k, s, f, gw, rfl, k3, g3, hcn⟩
  simp
  have bx := k2.cx
  have kk : DevK H3 d x y z (dev0 n) := k2.keepM fun u ob e _ => g3.m u ob e
  have ld := cellsOf_lt c2 k2.cd
  have lx := cellsOf_lt c2 k2.cx.choose_spec.choose_spec.1
  have ly := cellsOf_lt c2 k2.cy.choose_spec.choose_spec.1
  have lz := cellsOf_lt c2 k2.cz.choose_spec.choose_spec.1
  refine (arnew_ok d x y z c k s f gw D P S H2.n (dev0 n) hr H3 k3 kk ⟨ld, lx, ly, lz⟩ g3.n (dev0_u n (by omega)) (by rw [hn]; simp [dev0])).mono' ?_
  rintro _ H4 c4 _ ⟨A, rfl, k4, g4, ha, e1, e2, e3, e4, e5, e6, e7, e8, e9⟩
  have gT := g12.trans (g3.trans g4)
  have hn1 := g1.n
  have hn2 := g2.n
  have hn3 := g3.n
  simp
  exact ⟨A, ⟨rfl, by rw [e2]⟩, k4, gT, by omega, by omega, by omega, by omega, by omega, e6, e7, e8⟩

theorem v_bN {x : Hd} (hR : rightH x) : (x.vs.flatMap fun k => bN 2 k.toNat) = bN 2 x.a.toNat ++ (bN 2 x.b.toNat ++ bN 2 x.c.toNat) := by simp [Hd.vs]
theorem get_put {x : Hd} (hx : x.hs.length = 32) (hR : rightH x) (s : List UInt8) : getH (putH x ++ s) = (x, 0) := by
  have ra := hR.1 0 (by omega)
  have rb := hR.1 1 (by omega)
  have rc := hR.1 2 (by omega)
  have hn := hR.2
  change rng x.a at ra
  change rng x.b at rb
  change rng x.c at rc
  obtain ⟨a, ea⟩ : ∃ m : Nat, x.a = m := ⟨x.a.toNat, by have := ra.1; omega⟩
  obtain ⟨b, eb'⟩ : ∃ m : Nat, x.b = m := ⟨x.b.toNat, by have := rb.1; omega⟩
  obtain ⟨c, ec⟩ : ∃ m : Nat, x.c = m := ⟨x.c.toNat, by have := rc.1; omega⟩
  obtain ⟨n, en⟩ : ∃ m : Nat, x.n = m := ⟨x.n.toNat, by have := hn.1; omega⟩
  have la : a < 256 ^ 2 := by have := ra.2; rw [ea] at this; show a < 65536; omega
  have lb : b < 256 ^ 2 := by have := rb.2; rw [eb'] at this; show b < 65536; omega
  have lc : c < 256 ^ 2 := by have := rc.2; rw [ec] at this; show c < 65536; omega
  have ln : n < 256 ^ 4 := by have := hn.2; rw [en] at this; show n < 4294967296; omega
  have ta := tk_bN 2 a la
  have tb := tk_bN 2 b lb
  have tc := tk_bN 2 c lc
  have tn4 := tk_bN 4 n ln
  have l1 : (bN 2 a).length = 2 := bN_len _ _
  have l2 : (bN 2 b).length = 2 := bN_len _ _
  have l3 : (bN 2 c).length = 2 := bN_len _ _
  have l4 : (bN 4 n).length = 4 := bN_len _ _
  have hP : putH x = [84, 82, 73, 80] ++ (bN 2 a ++ (bN 2 b ++ (bN 2 c ++ (bN 4 n ++ (x.hs ++ [0, 0]))))) := by
    unfold putH
    rw [v_bN hR, ea, eb', ec, en]
    simp
  have hlen : (putH x).length = 48 := by rw [hP]; simp [l1, l2, l3, l4, hx]
  have hparse : parseH (putH x ++ s) = x := by
    obtain ⟨xa, xb, xc, xn, xh⟩ := x
    dsimp only at *
    subst ea eb' ec en
    rw [hP]
    unfold parseH
    congr 1
    · simp only [List.append_assoc]
      rw [List.drop_left' (show ([84, 82, 73, 80] : List UInt8).length = 4 from rfl), List.take_left' l1, ta]
    · simp only [List.append_assoc]
      rw [← List.append_assoc, List.drop_left' (by simp [l1]), List.take_left' l2, tb]
    · simp only [List.append_assoc]
      rw [← List.append_assoc, ← List.append_assoc, List.drop_left' (by simp [l1, l2]), List.take_left' l3, tc]
    · simp only [List.append_assoc]
      rw [← List.append_assoc, ← List.append_assoc, ← List.append_assoc, List.drop_left' (by simp [l1, l2, l3]), List.take_left' l4, tn4]
    · simp only [List.append_assoc]
      rw [← List.append_assoc, ← List.append_assoc, ← List.append_assoc, ← List.append_assoc, List.drop_left' (by simp [l1, l2, l3, l4]), List.take_left' hx]
  unfold getH
  rw [if_neg (by rw [List.length_append]; omega), hparse, List.take_left' hlen, if_pos ⟨hR, rfl⟩]
theorem colF_get (L : List (List UInt8)) (q i : Nat) (h : i < L.length) (h' : i < (colF L q).length) : (colF L q)[i] = L[i][q]! := List.getElem_map _
theorem foldE_col {d p : Nat} {L : List (List UInt8)} (hd : L.length = d) (hp : 0 < p) : ∀ a, a ≤ 60 → ∀ q, q < a → colF (foldE d p L a) q = encW p L q
  | 0, _, q, hq => by omega
  | a + 1, ha, q, hq => by
    have hl := foldE_len d p L a
    have hWl : ∀ q, (encW p L q).length = d + p := fun q => by
      unfold encW
      rw [List.length_append, (Pl.par_len hp _).2]
      unfold colF; rw [List.length_map, hd]
    have h60 := foldE_60 d p L a
    show colF (setK (foldE d p L a) a (encW p L a) (d + p)) q = _
    refine List.ext_getElem ?_ fun i h1 h2 => ?_
    · unfold colF; rw [List.length_map, setK_len, hl, hWl]
    · have hi : i < d + p := by rw [hWl] at h2; exact h2
      have hg := setK_get (L := foldE d p L a) (p := a) (w := encW p L a) (d + p) (by omega) i
      rw [if_pos hi, getElem!_pos _ i (by rw [setK_len, hl]; exact hi), getElem!_pos (foldE d p L a) i (by omega), getElem!_pos (encW p L a) i (by rw [hWl]; exact hi)] at hg
      have hx : ((foldE d p L a)[i]'(by omega)).length = 60 := h60 _ (List.getElem_mem _)
      rw [colF_get _ q i (by rw [setK_len, hl]; exact hi), hg]
      by_cases hqa : q = a
      · subst hqa
        rw [getElem!_pos _ q (by rw [List.length_set]; omega), List.getElem_set_self]
      · rw [getElem!_pos _ q (by rw [List.length_set]; omega), List.getElem_set_ne (by omega)]
        have ih := foldE_col hd hp a (by omega) q (by omega)
        have : (colF (foldE d p L a) q)[i]'(by unfold colF; rw [List.length_map]; omega) = (encW p L q)[i] := by simp only [ih]
        rw [← this, colF_get _ q i (by omega), getElem!_pos ((foldE d p L a)[i]'(by omega)) q (by omega)]
theorem encB_col {d p : Nat} {L : List (List UInt8)} (hd : L.length = d) (hp : 0 < p) (q : Nat) (hq : q < 60) : colF (encB d p L) q = encW p L q := foldE_col hd hp 60 (Nat.le_refl _) q hq
theorem encB_right {d p : Nat} {L : List (List UInt8)} (hd : L.length = d) (hp : 0 < p) (q : Nat) (hq : q < 60) : rightF p (colF (encB d p L) q) := by
  rw [encB_col hd hp q hq]
  intro j hj
  exact Pl.code_ok hp (colF L q) j hj
theorem encB_60 (d p : Nat) (L : List (List UInt8)) : ∀ x ∈ encB d p L, x.length = 60 := foldE_60 d p L 60
theorem encB_len (d p : Nat) (L : List (List UInt8)) : (encB d p L).length = d + p := foldE_len d p L 60
theorem encB_data {d p : Nat} {L : List (List UInt8)} (hd : L.length = d) (hp : 0 < p) (h60 : ∀ x ∈ L, x.length = 60) : (encB d p L).take d = L := by
  refine List.ext_getElem (by rw [List.length_take, encB_len, hd]; omega) fun i h1 h2 => ?_
  rw [List.getElem_take]
  have hi : i < d := by omega
  have hib : i < (encB d p L).length := by rw [encB_len]; omega
  have hx : ((encB d p L)[i]'hib).length = 60 := encB_60 d p L _ (List.getElem_mem _)
  have hy : (L[i]).length = 60 := h60 _ (List.getElem_mem _)
  refine List.ext_getElem (by rw [hx, hy]) fun q g1 g2 => ?_
  have hc := encB_col hd hp q (by omega)
  have e1 : (colF (encB d p L) q)[i]'(by unfold colF; rw [List.length_map]; exact hib) = ((encB d p L)[i]'hib)[q]! := by unfold colF; rw [List.getElem_map]
  have e2 : (encW p L q)[i]'(by unfold encW colF; simp; omega) = L[i][q]! := by
    unfold encW
    rw [List.getElem_append_left (by unfold colF; rw [List.length_map]; omega)]
    unfold colF; rw [List.getElem_map]
  have e3 : (colF (encB d p L) q)[i]'(by unfold colF; rw [List.length_map]; exact hib) = (encW p L q)[i]'(by unfold encW colF; simp; omega) := by simp only [hc]
  rw [e1, e2, getElem!_pos _ q g1, getElem!_pos _ q g2] at e3
  exact e3
theorem crE_take {b : List UInt8} (h : b.length = 60) : (crE b).take 60 = b := by
  unfold crE
  rw [List.take_append_of_le_length (by omega), List.take_of_length_le (by omega)]
theorem seal_take {B : List (List UInt8)} (h : ∀ x ∈ B, x.length = 60) : (B.map crE).map (List.take 60) = B := by
  rw [List.map_map]
  conv => rhs; rw [← List.map_id B]
  exact List.map_congr_left fun x hx => crE_take (h x hx)
theorem seal_er {B : List (List UInt8)} (h : ∀ x ∈ B, x.length = 60) : erF (B.map crE) = [] := by
  unfold erF
  rw [List.filter_eq_nil_iff]
  intro i hi
  have hi' : i < B.length := by simpa using hi
  rw [getElem!_pos _ i (by rw [List.length_map]; exact hi'), List.getElem_map, crE_take (h _ (List.getElem_mem hi'))]
  simp
theorem seal_wr {B : List (List UInt8)} (n : Nat) (hn : n ≤ B.length) : wrF B (B.map crE) n = [] := by
  unfold wrF
  rw [List.filter_eq_nil_iff]
  intro i hi
  have hi' : i < B.length := by have := List.mem_range.1 hi; omega
  rw [getElem!_pos (B.map crE) i (by rw [List.length_map]; exact hi'), List.getElem_map, getElem!_pos B i hi']
  simp
theorem strF_filled {A : ArB} {V V' : DevS} {a : Nat} {T : List (List UInt8)} (w : Filled A V V' a T A.S) (k : Nat) (hk : k < A.S) : strF A V' a k = secs A ((T.drop (k * A.D)).take A.D) := by
  have hs := secs_len A ((T.drop (k * A.D)).take A.D)
  refine List.ext_getElem (by rw [strF_len, hs]) fun i h1 h2 => ?_
  have hi : i < A.D + A.P := by rw [strF_len] at h1; exact h1
  have := w.at' k i hk hi
  rw [getElem!_pos _ i h2] at this
  rw [← this]
  simp [strF]
theorem splitT_flat : ∀ (n : Nat) (t : List UInt8), t.length ≤ 60 * n → (splitT t n).flatten = t ++ List.replicate (60 * n - t.length) 0
  | 0, t, h => by
    have : t = [] := List.eq_nil_of_length_eq_zero (by omega)
    subst this; rfl
  | n + 1, t, h => by
    show padT t ++ (splitT (t.drop 60) n).flatten = _
    rw [splitT_flat n (t.drop 60) (by rw [List.length_drop]; omega)]
    unfold padT
    by_cases h60 : t.length ≤ 60
    · rw [List.take_of_length_le h60, List.drop_of_length_le h60, List.nil_append, List.append_assoc, List.replicate_append_replicate]
      congr 2
      simp only [List.length_nil]; omega
    · rw [show 60 - t.length = 0 by omega, List.replicate_zero, List.append_nil, ← List.append_assoc, List.take_append_drop, List.length_drop]
      congr 2
      omega
theorem chunks_flat (D : Nat) : ∀ (S : Nat) (T : List (List UInt8)), T.length = D * S → ∀ (X : Nat → List (List UInt8)), (∀ k, k < S → X k = (T.drop (k * D)).take D) → ((List.range S).map fun k => (X k).flatten).flatten = T.flatten
  | 0, T, h, X, _ => by
    have : T = [] := List.eq_nil_of_length_eq_zero (by simpa using h)
    subst this; rfl
  | S + 1, T, h, X, hX => by
    have ih := chunks_flat D S (T.take (D * S)) (by rw [List.length_take, h]; exact Nat.min_eq_left (Nat.mul_le_mul_left _ (by omega))) X fun k hk => by
      rw [hX k (by omega), List.drop_take, List.take_take]
      congr 1
      have : (k + 1) * D ≤ S * D := Nat.mul_le_mul_right _ hk
      rw [Nat.add_mul, Nat.one_mul] at this
      rw [Nat.mul_comm D S]
      omega
    rw [List.range_succ, List.map_append, List.flatten_append, ih, List.map_singleton, List.flatten_singleton, hX S (by omega), ← List.flatten_append, Nat.mul_comm S D]
    have hd : (T.drop (D * S)).take D = T.drop (D * S) := List.take_of_length_le (by rw [List.length_drop, h, Nat.mul_add]; omega)
    rw [hd, List.take_append_drop]
theorem ldT_eq (A : ArB) (X : Nat → List (List UInt8)) : ∀ k, ldT A X k = ((List.range k).map fun k => ((X k).take A.D).flatten).flatten
  | 0 => rfl
  | k + 1 => by
    show ldT A X k ++ _ = _
    rw [ldT_eq A X k, List.range_succ, List.map_append, List.flatten_append]
    simp

def c8 : AC := .seq (.ops [⟨some 0,none,.mv (.const (.bool false))⟩]) (.seq (.ops [⟨some 8,none,.build [.int .i64 0,.int .i64 0,.int .i64 0] [(0,1,.const (.int .i64 2)),(1,1,.const (.int .i64 2)),(2,1,.const (.int .i64 1))]⟩,⟨some 9,none,.call 13 [.tmp 8]⟩,⟨some 7,none,.mv (.tmp 9)⟩,⟨some 10,none,.extr (.tmp 7) 0⟩,⟨some 11,none,.extr (.tmp 7) 1⟩,⟨some 1,none,.mv (.tmp 10)⟩,⟨some 2,none,.mv (.tmp 11)⟩]) (.seq (.seq (.ops [⟨some 12,none,.mv (.tmp 1)⟩,⟨some 13,none,.eqv false .ptr (.tmp 12) (.const (.pointer none))⟩,⟨some 14,none,.mv (.tmp 13)⟩,⟨some 15,some (14,false),.mv (.tmp 1)⟩,⟨some 16,some (14,false),.build [.int .i64 0,.int .i64 0,.int .i64 0] []⟩,⟨some 17,some (14,false),.call 16 [.tmp 16,.const (.string ⟨⟨[97,98,99]⟩⟩)]⟩,⟨some 18,some (14,false),.call 15 [.tmp 15,.const (.int .i64 1),.tmp 17,.const (.string ⟨⟨[97,98,99]⟩⟩)]⟩,⟨some 19,some (14,false),.bin .neq (.tmp 18) (.const (.int .i64 0))⟩,⟨some 20,none,.pick (.tmp 14) (.const (.bool true)) (.tmp 19)⟩]) (.cond (.tmp 20) (.seq (.ops [⟨some 0,none,.mv (.const (.bool false))⟩]) .ret) .skip)) (.seq (.ops [⟨some 22,none,.mv (.tmp 1)⟩,⟨some 23,none,.call 22 [.tmp 22,.const (.int .i64 1)]⟩,⟨some 21,none,.mv (.tmp 23)⟩,⟨some 24,none,.extr (.tmp 21) 0⟩,⟨some 25,none,.extr (.tmp 21) 1⟩,⟨some 26,none,.extr (.tmp 21) 2⟩,⟨some 27,none,.extr (.tmp 21) 3⟩,⟨some 3,none,.alloc z36⟩,⟨none,none,.store 36 (.tmp 3) (.tmp 24)⟩,⟨some 4,none,.mv (.tmp 25)⟩,⟨some 5,none,.mv (.tmp 26)⟩,⟨some 6,none,.mv (.tmp 27)⟩]) (.seq (.ops [⟨some 28,none,.mv (.tmp 4)⟩,⟨some 29,none,.bin .eql (.tmp 28) (.const (.string ⟨⟨[97,98,99]⟩⟩))⟩,⟨some 30,none,.mv (.tmp 29)⟩,⟨some 31,some (30,true),.mv (.tmp 5)⟩,⟨some 32,some (30,true),.bin .eql (.tmp 31) (.const (.int .i64 0))⟩,⟨some 33,none,.pick (.tmp 30) (.tmp 32) (.const (.bool false))⟩,⟨some 34,none,.mv (.tmp 33)⟩,⟨some 35,some (34,true),.mv (.tmp 6)⟩,⟨some 36,some (34,true),.bin .eql (.tmp 35) (.const (.int .i64 0))⟩,⟨some 37,none,.pick (.tmp 34) (.tmp 36) (.const (.bool false))⟩,⟨some 0,none,.mv (.tmp 37)⟩]) .ret))))
theorem k8 : compF Tryz.prog Tryz.f8 = some (c8, [0]) := by kernel_rfl
theorem n8 : Tryz.f8.ntmps = 38 := by kernel_rfl
theorem load_filled (A : ArB) (V0 V : DevS) (a : Nat) (ha : a ≤ 2) (x : Hd) (hx : x.hs.length = 32) (img : List UInt8) (hE : txE A.D A.P A.S x img.length = 0) (hsh : x.hs = shaB img) (w : Filled A V0 V a (txL A.D A.P A.S x img) A.S) (h : Heap) (K : ArK h A V) :
    ACalls Tryz.prog 22 [.pointer (some ⟨A.a, 0, none⟩), .int .i64 (a : Int)] h fun r h' => r = .tuple #[hv x, .string (bs img), .int .i64 0, .int .i64 0] ∧ ∃ q, ArK h' A (V.wop q) ∧ ArX A h h' := by
  obtain ⟨⟨hd1, hd8⟩, ⟨hp2, hp6⟩, hn1, hn8⟩ := right_prop.1 K.rt
  have hT : txL A.D A.P A.S x img = splitT (putH x ++ img) (A.D * A.S) := by
    unfold txL
    rw [if_pos hE]
    have : ((A.D : Int) * A.S) = ((A.D * A.S : Nat) : Int) := by push_cast; rfl
    rw [this]; rfl
  have hcond : right A.D A.P A.S = true ∧ rightH x ∧ x.n = img.length ∧ (img.length : Int) ≤ roomF A.D A.P A.S := by
    unfold txE at hE
    split at hE
    · rename_i q
      refine ⟨q.1, q.2.1, q.2.2, ?_⟩
      split at hE
      · omega
      · omega
    · omega
  obtain ⟨_, hR, hn, hroom⟩ := hcond
  rw [hT] at w
  have hTl := splitT_len (putH x ++ img) (A.D * A.S)
  have hT60 := splitT_60 (putH x ++ img) (A.D * A.S)
  have hpl : (putH x).length = 48 := putH_len hx
  have hroomv : roomF A.D A.P A.S = max (60 * ((A.D * A.S : Nat) : Int) - 48) 0 := by
    unfold roomF
    rw [if_pos K.rt]
    push_cast; rfl
  have hfit : (putH x ++ img).length ≤ 60 * (A.D * A.S) := by
    have : 1 ≤ A.D * A.S := Nat.mul_pos (by omega) (by omega)
    rw [List.length_append, hpl]; omega
  have hTf := splitT_flat (A.D * A.S) (putH x ++ img) hfit
  obtain ⟨T, hTe⟩ : ∃ T, splitT (putH x ++ img) (A.D * A.S) = T := ⟨_, rfl⟩
  rw [hTe] at w hTl hT60 hTf
  have hLk : ∀ k, k < A.S → ((T.drop (k * A.D)).take A.D).length = A.D ∧ ∀ y ∈ (T.drop (k * A.D)).take A.D, y.length = 60 := fun k hk => by
    refine ⟨?_, fun y hy => hT60 y (List.mem_of_mem_drop (List.mem_of_mem_take hy))⟩
    have : (k + 1) * A.D ≤ A.S * A.D := Nat.mul_le_mul_right _ hk
    rw [Nat.add_mul, Nat.one_mul, Nat.mul_comm A.S] at this
    rw [List.length_take, List.length_drop, hTl]; omega
  obtain ⟨X, hXd⟩ : ∃ X : Nat → List (List UInt8), X = fun k => encB A.D A.P ((T.drop (k * A.D)).take A.D) := ⟨_, rfl⟩
  have hX : ∀ k, k < A.S → (X k).length = A.D + A.P ∧ ∀ y ∈ X k, y.length = 60 := fun k hk => by subst hXd; exact ⟨encB_len _ _ _, encB_60 _ _ _⟩
  have hXD : ∀ k, k < A.S → (X k).take A.D = (T.drop (k * A.D)).take A.D := fun k hk => by subst hXd; exact encB_data (hLk k hk).1 (by omega) (hLk k hk).2
  have hld : ldT A X A.S = T.flatten := by
    rw [ldT_eq]
    exact chunks_flat A.D A.S T hTl (fun k => (X k).take A.D) hXD
  have hst : ∀ k, k < A.S → strF A V a k = (X k).map crE := fun k hk => by rw [strF_filled w k hk, hXd]; rfl
  have hW : ∀ k, k ≤ A.S → ldW A V a X k = 0 := fun k => by
    induction k with
    | zero => intro _; rfl
    | succ k ih =>
      intro hk
      show ldW A V a X k + _ = 0
      rw [ih (by omega), hst k (by omega), seal_wr _ (by rw [(hX k (by omega)).1]; omega)]
      rfl
  have hg : getH (ldT A X A.S) = (x, 0) := by rw [hld, hTf, List.append_assoc]; exact get_put hx hR _
  have him : ((ldT A X A.S).drop 48).take img.length = img := by
    rw [hld, hTf, List.append_assoc, List.drop_append_of_le_length (by omega), List.drop_of_length_le (by omega), List.nil_append, List.take_append_of_le_length (Nat.le_refl _), List.take_of_length_le (Nat.le_refl _)]
  have key := load_ok A V a ha X hX x hx img hg hn (by rw [hn]; exact hroom) him hsh h K fun k hk H v ck sv' => by
    have hs := hst k hk
    have hl64 : ∀ y ∈ strF A V a k, y.length = 64 := fun y hy => by
      rw [hs] at hy
      obtain ⟨z, hz, rfl⟩ := List.mem_map.1 hy
      rw [crE_len, (hX k hk).2 z hz]
    have htk : (strF A V a k).map (List.take 60) = X k := by rw [hs]; exact seal_take (hX k hk).2
    have := cread_right A.c A.k A.s A.f A.gw A.D A.P A.S K.rt (strF A V a k) hl64 (strF_len _ _ _ _) v H ck sv' (by rw [hs, seal_er (hX k hk).2]; exact Nat.zero_le _) (fun q hq => by rw [htk, hXd]; exact encB_right (hLk k hk).1 (by omega) q hq)
    rw [htk] at this
    exact this
  rw [hW A.S (Nat.le_refl _)] at key
  exact key
theorem secs_free {D P S : Nat} (n i : Nat) (h : i < n) : (dev0 n).lock[i]! = false := by
  show (List.replicate n false)[i]! = false
  rw [getElem!_pos _ i (by simpa using h)]
  simp
theorem arawake_ok (h : Heap) : ACalls Tryz.prog 8 [] h fun v h' => v = .bool true ∧ h' = h := by
  refine ACalls.same .bool (acalls_of mix Tryz.func8 k8 n8 (by simp) fun hcl hb => ?_)
  have hq : ∀ p, aeq .ptr (.pointer (some p)) (.pointer none) = some false := fun _ => rfl
  have fil1 : afill [.int .i64 0, .int .i64 0, .int .i64 0] [(0, 1, .int .i64 2), (1, 1, .int .i64 2), (2, 1, .int .i64 1)] = some [.int .i64 2, .int .i64 2, .int .i64 1] := rfl
  have fil0 : afill [.int .i64 0, .int .i64 0, .int .i64 0] [] = some [.int .i64 0, .int .i64 0, .int .i64 0] := rfl
  have hg : (.agg #[.int .i64 2, .int .i64 2, .int .i64 1] : Value) = gv ((2 : Nat) : Int) ((2 : Nat) : Int) ((1 : Nat) : Int) := rfl
  have h30 : (.agg #[.int .i64 0, .int .i64 0, .int .i64 0] : Value) = v3 0 0 0 := rfl
  simp only [c8, s_seq, s_ops]
  simp [fil1, hg]
  refine (fresh_ok 2 2 1 (by decide) h).mono' ?_
  rintro _ H1 c1 _ ⟨A, rfl, K1, g1, ha, hd, hx, hy, hz, hD, hP, hS⟩
  simp [hq, fil0, h30, bs_lit]
  refine (hof_ok 0 0 0 [97, 98, 99] (by simp) H1).mono ?_
  rintro _ h9 ⟨rfl, e⟩
  rw [e]; clear e h9
  have hE : txE A.D A.P A.S ⟨0, 0, 0, (([97, 98, 99] : List UInt8).length : Int), shaB [97, 98, 99]⟩ ([97, 98, 99] : List UInt8).length = 0 := by
    rw [hD, hP, hS]
    unfold txE
    rw [if_pos ⟨by decide, ⟨fun j hj => by
      match j, hj with
      | 0, _ => exact (by unfold rng Hd.vs; decide)
      | 1, _ => exact (by unfold rng Hd.vs; decide)
      | 2, _ => exact (by unfold rng Hd.vs; decide), by decide, by decide⟩, rfl⟩]
    rfl
  simp only [List.length_cons, List.length_nil] at hE ⊢
  obtain ⟨xB, hxB⟩ : ∃ xB : Hd, (⟨0, 0, 0, ((0 + 1 + 1 + 1 : Nat) : Int), shaB [97, 98, 99]⟩ : Hd) = xB := ⟨_, rfl⟩
  have hsB : xB.hs = shaB [97, 98, 99] := by rw [← hxB]
  have hx32 : xB.hs.length = 32 := by rw [hsB]; exact shaB_len _
  rw [hxB] at hE ⊢
  have hlk1 : ∀ k i, k < A.S → i < A.D + A.P → (dev0 (allS ((2 : Nat) : Int) ((2 : Nat) : Int) ((1 : Nat) : Int)).toNat).lock[secN A.D A.P A.S 1 k i]! = false := fun k i hk hi => secs_free (D := 2) (P := 2) (S := 1) _ _ (by
    have := (secN_lt K1.rt (a := 1) (by omega) hk hi).1
    rw [hD, hP, hS] at this
    rw [hD, hP, hS]
    omega)
  simp
  refine (fill_ok A _ 1 (by omega) xB hx32 [97, 98, 99] (by simp) hE H1 K1 hlk1).mono' ?_
  rintro _ H2 c2 _ ⟨rfl, V2, K2, w2, g2⟩
  simp
  refine (load_filled A _ V2 1 (by omega) xB hx32 [97, 98, 99] hE hsB w2 H2 K2).mono' ?_
  rintro _ H3 c3 _ ⟨rfl, q, K3, g3⟩
  have hlen : (hc xB).length = 36 := by simp [hc, ubs_len, hx32]
  have hz36 : z36.length = 36 := by rw [z36_eq]; simp [hc, ubs_len, zH, z32]
  have hpx : aput z36 0 (hc xB) = hc xB := by
    unfold aput
    rw [hlen, List.drop_eq_nil_of_le (by rw [hz36]; omega)]
    simp
  have fz := cellsOf_new H3 z36 .ex 1
  simp [fz, m_hv, m_hc, hlen, hz36, hpx, set_push]
  have g23 := Xd.trans g2 g3
  refine ⟨by have := g1.n; have := g23.n; show h.n ≤ H3.n + 1; omega, fun u ob e => ?_⟩
  have hu := (hcl u ob e).1
  have := g23.m u ob (g1.m u ob e) (by omega) (by omega) (by omega) (by omega)
  exact keep_push c3 _ u ob this

def c10_0 : AC := .seq (.seq (.ops [⟨some 37,none,.mv (.tmp 10)⟩,⟨some 38,none,.fAddr 0 (.tmp 3)⟩,⟨some 39,none,.load none (.tmp 38)⟩,⟨some 40,none,.fAddr 2 (.tmp 3)⟩,⟨some 41,none,.load none (.tmp 40)⟩,⟨some 42,none,.bin .mul (.tmp 39) (.tmp 41)⟩,⟨some 43,none,.bin .lss (.tmp 37) (.tmp 42)⟩]) (.cond (.tmp 43) .skip (.exit 0))) (.seq (.block 1 (.seq (.ops [⟨some 46,none,.mv (.tmp 10)⟩,⟨some 47,none,.bin .mul (.const (.int .i64 60)) (.tmp 46)⟩,⟨some 11,none,.mv (.tmp 47)⟩]) (.seq (.seq (.ops [⟨some 48,none,.mv (.tmp 11)⟩,⟨some 49,none,.mv (.tmp 8)⟩,⟨some 50,none,.lenS true (.tmp 49)⟩,⟨some 51,none,.bin .gtr (.tmp 48) (.tmp 50)⟩]) (.cond (.tmp 51) (.ops [⟨some 52,none,.mv (.tmp 8)⟩,⟨some 53,none,.lenS true (.tmp 52)⟩,⟨some 11,none,.mv (.tmp 53)⟩]) .skip)) (.ops [⟨some 54,none,.mv (.tmp 9)⟩,⟨some 55,none,.mv (.tmp 8)⟩,⟨some 56,none,.mv (.tmp 11)⟩,⟨some 57,none,.slS (.tmp 55) (some (.tmp 56)) none⟩,⟨some 58,none,.call 18 [.tmp 57]⟩,⟨some 59,none,.buildS 1 (zl .u8 60) [(0,60,.tmp 58)]⟩,⟨some 60,none,.app 60 60 40 (.tmp 54) (.tmp 59)⟩,⟨some 9,none,.mv (.tmp 60)⟩])))) (.ops [⟨some 44,none,.mv (.tmp 10)⟩,⟨some 45,none,.bin .add (.tmp 44) (.const (.int .i64 1))⟩,⟨some 10,none,.mv (.tmp 45)⟩]))
def c10 : AC := .seq (.ops [⟨some 3,none,.box (.tmp 0)⟩,⟨some 4,none,.box (.tmp 1)⟩,⟨some 6,none,.mv (.const (.slice none 0 0))⟩,⟨some 7,none,.mv (.const (.int .i64 0))⟩]) (.seq (.seq (.ops [⟨some 12,none,.load (some 3) (.tmp 3)⟩,⟨some 13,none,.call 11 [.tmp 12]⟩,⟨some 14,none,.un .not (.tmp 13)⟩,⟨some 15,none,.mv (.tmp 14)⟩,⟨some 16,some (15,false),.load (some 36) (.tmp 4)⟩,⟨some 17,some (15,false),.call 36 [.tmp 16]⟩,⟨some 18,some (15,false),.un .not (.tmp 17)⟩,⟨some 19,none,.pick (.tmp 15) (.const (.bool true)) (.tmp 18)⟩,⟨some 20,none,.mv (.tmp 19)⟩,⟨some 21,some (20,false),.fAddr 3 (.tmp 4)⟩,⟨some 22,some (20,false),.load none (.tmp 21)⟩,⟨some 23,some (20,false),.mv (.tmp 2)⟩,⟨some 24,some (20,false),.lenS true (.tmp 23)⟩,⟨some 25,some (20,false),.bin .neq (.tmp 22) (.tmp 24)⟩,⟨some 26,none,.pick (.tmp 20) (.const (.bool true)) (.tmp 25)⟩]) (.cond (.tmp 26) (.seq (.ops [⟨some 6,none,.mv (.const (.slice none 0 0))⟩,⟨some 7,none,.mv (.const (.int .i64 1))⟩]) .ret) .skip)) (.seq (.seq (.ops [⟨some 27,none,.mv (.tmp 2)⟩,⟨some 28,none,.lenS true (.tmp 27)⟩,⟨some 29,none,.load (some 3) (.tmp 3)⟩,⟨some 30,none,.call 37 [.tmp 29]⟩,⟨some 31,none,.bin .gtr (.tmp 28) (.tmp 30)⟩]) (.cond (.tmp 31) (.seq (.ops [⟨some 6,none,.mv (.const (.slice none 0 0))⟩,⟨some 7,none,.mv (.const (.int .i64 12))⟩]) .ret) .skip)) (.seq (.ops [⟨some 32,none,.load (some 36) (.tmp 4)⟩,⟨some 33,none,.call 38 [.tmp 32]⟩,⟨some 34,none,.mv (.tmp 2)⟩,⟨some 35,none,.bin .add (.tmp 33) (.tmp 34)⟩,⟨some 8,none,.mv (.tmp 35)⟩]) (.seq (.ops [⟨some 36,none,.buildS 0 [] []⟩,⟨some 9,none,.mv (.tmp 36)⟩]) (.seq (.seq (.ops [⟨some 10,none,.mv (.const (.int .i64 0))⟩]) (.block 0 (.loop c10_0))) (.seq (.ops [⟨some 61,none,.mv (.tmp 9)⟩,⟨some 6,none,.mv (.tmp 61)⟩,⟨some 7,none,.mv (.const (.int .i64 0))⟩]) .ret))))))
theorem k10 : compF Tryz.prog Tryz.f10 = some (c10, [6, 7]) := by kernel_rfl
def c3_0 : AC := .seq (.ops [⟨some 44,none,.bin .lss (.tmp 43) (.tmp 42)⟩]) (.seq (.cond (.tmp 44) .skip (.exit 0)) (.seq (.block 1 (.seq (.ops [⟨some 45,none,.mv (.tmp 43)⟩,⟨some 11,none,.mv (.tmp 45)⟩]) (.seq (.draw [([⟨some 46,none,.mv (.tmp 7)⟩,⟨some 47,none,.mv (.tmp 11)⟩,⟨some 48,none,.iAddrS 60 (.tmp 46) (.tmp 47)⟩,⟨some 49,none,.load (some 60) (.tmp 48)⟩,⟨some 50,none,.mv (.tmp 9)⟩,⟨some 51,none,.mv (.tmp 11)⟩,⟨some 52,none,.iAddrS 60 (.tmp 50) (.tmp 51)⟩,⟨some 53,none,.load (some 60) (.tmp 52)⟩,⟨some 54,none,.eqa true (ckl 60) (.tmp 49) (.tmp 53)⟩],[],[])]) (.cond (.tmp 54) (.seq (.ops [⟨some 6,none,.mv (.const (.bool false))⟩]) .ret) .skip)))) (.ops [⟨some 55,none,.bin .add (.tmp 43) (.const (.int .i64 1))⟩,⟨some 43,none,.mv (.tmp 55)⟩])))
def c3 : AC := .seq (.ops [⟨some 3,none,.box (.tmp 0)⟩,⟨some 4,none,.box (.tmp 1)⟩,⟨some 6,none,.mv (.const (.bool false))⟩]) (.seq (.seq (.ops [⟨some 12,none,.call 8 []⟩,⟨some 13,none,.un .not (.tmp 12)⟩]) (.cond (.tmp 13) (.seq (.ops [⟨some 6,none,.mv (.const (.bool false))⟩]) .ret) .skip)) (.seq (.seq (.ops [⟨some 14,none,.mv (.tmp 2)⟩,⟨some 15,none,.lenS true (.tmp 14)⟩,⟨some 16,none,.bin .gtr (.tmp 15) (.const (.int .i64 5000))⟩]) (.cond (.tmp 16) (.seq (.ops [⟨some 6,none,.mv (.const (.bool true))⟩]) .ret) .skip)) (.seq (.ops [⟨some 18,none,.load (some 3) (.tmp 3)⟩,⟨some 19,none,.load (some 36) (.tmp 4)⟩,⟨some 20,none,.mv (.tmp 2)⟩,⟨some 21,none,.call 9 [.tmp 18,.tmp 19,.tmp 20]⟩,⟨some 17,none,.mv (.tmp 21)⟩,⟨some 22,none,.extr (.tmp 17) 0⟩,⟨some 23,none,.extr (.tmp 17) 1⟩,⟨some 7,none,.mv (.tmp 22)⟩,⟨some 8,none,.mv (.tmp 23)⟩]) (.seq (.ops [⟨some 25,none,.load (some 3) (.tmp 3)⟩,⟨some 26,none,.load (some 36) (.tmp 4)⟩,⟨some 27,none,.mv (.tmp 2)⟩,⟨some 28,none,.call 10 [.tmp 25,.tmp 26,.tmp 27]⟩,⟨some 24,none,.mv (.tmp 28)⟩,⟨some 29,none,.extr (.tmp 24) 0⟩,⟨some 30,none,.extr (.tmp 24) 1⟩,⟨some 9,none,.mv (.tmp 29)⟩,⟨some 10,none,.mv (.tmp 30)⟩]) (.seq (.seq (.ops [⟨some 31,none,.mv (.tmp 8)⟩,⟨some 32,none,.mv (.tmp 10)⟩,⟨some 33,none,.bin .neq (.tmp 31) (.tmp 32)⟩,⟨some 34,none,.mv (.tmp 33)⟩,⟨some 35,some (34,false),.mv (.tmp 7)⟩,⟨some 36,some (34,false),.lenS false (.tmp 35)⟩,⟨some 37,some (34,false),.mv (.tmp 9)⟩,⟨some 38,some (34,false),.lenS false (.tmp 37)⟩,⟨some 39,some (34,false),.bin .neq (.tmp 36) (.tmp 38)⟩,⟨some 40,none,.pick (.tmp 34) (.const (.bool true)) (.tmp 39)⟩]) (.cond (.tmp 40) (.seq (.ops [⟨some 6,none,.mv (.const (.bool false))⟩]) .ret) .skip)) (.seq (.seq (.ops [⟨some 41,none,.mv (.tmp 9)⟩,⟨some 42,none,.lenS false (.tmp 41)⟩,⟨some 43,none,.mv (.const (.int .i64 0))⟩]) (.block 0 (.loop c3_0))) (.seq (.ops [⟨some 6,none,.mv (.const (.bool true))⟩]) .ret)))))))
theorem k3 : compF Tryz.prog Tryz.f3 = some (c3, [6]) := by kernel_rfl
theorem n3 : Tryz.f3.ntmps = 56 := by kernel_rfl
section
open Go.RowKit Go.ChangeShapes Go.WideShapes
variable {H : Type} {P : Program} {W : World} {enc : TypeId × Value → H}
end
theorem u8_of {n : Int} (h : (Lit.int .u8 n).wf = true) : ∃ c : UInt8, n = (c.toNat : Int) := by
  simp [Lit.wf, IntKind.min, IntKind.max, IntKind.signed, IntKind.bits] at h
  refine ⟨UInt8.ofNat n.toNat, ?_⟩
  simp
  omega
end Go.Proofs.YtikpgnkegnedoaaGreat.arbf

