/-
 Contracts.
-/
import Derived.Test.YtdnmkenamgfjoaaGreatArbe
import Derived.IntWalk
import Derived.KernelRfl
set_option linter.unusedSimpArgs false
set_option linter.unusedVariables false
set_option linter.unusedSectionVars false
namespace Go.Proofs.YtdnmkenamgfjoaaGreat.arbf
open Go Go.Ab Go.Proofs Go.RowKit Go.Proofs.YtdnmkenamgfjoaaGreat.str Go.Proofs.YtdnmkenamgfjoaaGreat.vers Go.Proofs.YtdnmkenamgfjoaaGreat.lin1 Go.Proofs.YtdnmkenamgfjoaaGreat.sha Go.Proofs.YtdnmkenamgfjoaaGreat.arba Go.Proofs.YtdnmkenamgfjoaaGreat.arbb Go.Proofs.YtdnmkenamgfjoaaGreat.arbc Go.Proofs.YtdnmkenamgfjoaaGreat.arbd Go.Proofs.YtdnmkenamgfjoaaGreat.arbe
variable [Inhabited TabBox]
variable [Nonempty GF]
variable [Nonempty GE]
set_option maxRecDepth 100000
def c60 : AC := .seq (.ops [oP 4 (.mv (.const (.pointer none))),oP 5 (.mv (kI 0))]) (.seq (.seq (.ops [mV 6 0,oP 7 (.eqv false .ptr (tP 6) (.const (.pointer none))),mV 8 7,⟨some 9,some (8,false),.mv (tP 1)⟩,⟨some 10,some (8,false),.eqv false .ptr (tP 9) (.const (.pointer none))⟩,oP 11 (.pick (tP 8) (.const (.bool true)) (tP 10)),mV 12 11,⟨some 13,some (12,false),.mv (tP 0)⟩,⟨some 14,some (12,false),.call 48 [tP 13]⟩,⟨some 15,some (12,false),.mv (tP 1)⟩,⟨some 16,some (12,false),.call 56 [tP 15]⟩,⟨some 17,some (12,false),.call 58 [tP 16]⟩,⟨some 18,some (12,false),.bin .lss (tP 14) (tP 17)⟩,oP 19 (.pick (tP 12) (.const (.bool true)) (tP 18))]) (.cond (tP 19) (.seq (.ops [oP 4 (.mv (.const (.pointer none))),oP 5 (.mv (kI 1))]) .ret) .skip)) (.seq (.ops [mV 20 1,mV 21 0,mV 22 1,oP 23 (.call 56 [tP 22]),oP 24 (.build [.pointer none,.pointer none,.int .i64 0,.int .i64 0,.int .i64 0] [(0,1,.tmp 20),(1,1,.tmp 21),(2,3,.tmp 23)]),oP 25 (.box (tP 24)),mV 4 25,oP 5 (.mv (kI 0))]) .ret))
theorem k60 : compF Tryz.prog Tryz.f60 = some (c60, [4, 5]) := by kernel_rfl
theorem n60 : Tryz.f60.ntmps = 26 := by kernel_rfl
def c25 : AC := .seq (.ops [oP 1 (.box (tP 0)),oP 2 (.mv (.const (.pointer none))),oP 3 (.mv (.const (.pointer none)))]) (.seq (.ops [oP 11 (.load (some 3) (tP 1)),oP 12 (.call 58 [tP 11]),oP 13 (.call 57 [tP 12]),mV 10 13,oP 14 (.extr (tP 10) 0),oP 15 (.extr (tP 10) 1),mV 4 14,mV 5 15]) (.seq (.ops [oP 17 (.load (some 3) (tP 1)),oP 18 (.call 59 [tP 17]),mV 16 18,oP 19 (.extr (tP 16) 0),oP 20 (.extr (tP 16) 1),mV 6 19,mV 7 20]) (.seq (.ops [mV 22 4,mV 23 6,oP 24 (.call 60 [tP 22,tP 23]),mV 21 24,oP 25 (.extr (tP 21) 0),oP 26 (.extr (tP 21) 1),mV 8 25,mV 9 26]) (.seq (.seq (.ops [mV 27 5,oP 28 (.bin .neq (tP 27) (kI 0)),mV 29 28,⟨some 30,some (29,false),.mv (tP 7)⟩,⟨some 31,some (29,false),.bin .neq (tP 30) (kI 0)⟩,oP 32 (.pick (tP 29) (.const (.bool true)) (tP 31)),mV 33 32,⟨some 34,some (33,false),.mv (tP 9)⟩,⟨some 35,some (33,false),.bin .neq (tP 34) (kI 0)⟩,oP 36 (.pick (tP 33) (.const (.bool true)) (tP 35))]) (.cond (tP 36) (.seq (.ops [oP 2 (.mv (.const (.pointer none))),oP 3 (.mv (.const (.pointer none)))]) .ret) .skip)) (.seq (.ops [mV 37 8,mV 38 4,mV 2 37,mV 3 38]) .ret)))))
theorem k25 : compF Tryz.prog Tryz.f25 = some (c25, [2, 3]) := by kernel_rfl
theorem n25 : Tryz.f25.ntmps = 39 := by kernel_rfl
theorem dev0_u (n : Nat) (hn : n ≤ 512) : DevU (dev0 n) := ⟨rfl, by show (-1 : Int) < 0; decide, by simp [dev0], by simp [dev0], by simpa [dev0] using hn⟩
theorem arnew_ok (d x y z c k s f : Nat) (gw : Value) (D P S n1 : Nat) (V : DevS) (hr : right D P S = true) (h : Heap) (kc : CodK (frm h n1) c k s f gw D P S) (kd : DevK h d x y z V) (hlo : d < n1 ∧ x < n1 ∧ y < n1 ∧ z < n1) (hn1 : n1 ≤ h.n) (hu : DevU V) (hsz : allS D P S ≤ V.lock.length) :
  ACalls Tryz.prog 60 [.pointer (some ⟨d, 0, none⟩), .pointer (some ⟨c, 0, none⟩)] h fun r h' => ∃ A : ArB, r = .tuple #[.pointer (some ⟨A.a, 0, none⟩), .int .i64 0] ∧ ArK h' A V ∧ Gr h h' ∧ h.n ≤ A.a ∧ A.c = c ∧ A.d = d ∧ A.x = x ∧ A.y = y ∧ A.z = z ∧ A.D = D ∧ A.P = P ∧ A.S = S ∧ A.n1 = n1 := by
 refine acalls_of mix Tryz.func60 k60 n60 (by simp) fun hcl hb => ?_
 have hq : ∀ p, aeq .ptr (.pointer (some p)) (.pointer none) = some false := fun _ => rfl
 have kc' := kc.keep (from_gr hcl n1)
 simp [c60, hq]
 refine (sectors_ok d x y z V h kd).mono ?_
 rintro _ h9 ⟨rfl, e⟩
 rw [e]; clear e h9
 simp
 refine (cgeo_ok c k s f gw D P S h kc').mono ?_
 rintro _ h9 ⟨rfl, e⟩
 rw [e]; clear e h9
 simp
 refine (all_ok D P S h).mono ?_
 rintro _ h9 ⟨rfl, e⟩
 rw [e]; clear e h9
 have hlt : ¬ ((V.lock.length : Int) < allS D P S) := by omega
 simp [hlt]
 refine (cgeo_ok c k s f gw D P S h kc').mono ?_
 rintro _ h9 ⟨rfl, e⟩
 rw [e]; clear e h9
 have fil : afill [.pointer none, .pointer none, .int .i64 0, .int .i64 0, .int .i64 0] [(0, 1, .pointer (some ⟨c, 0, none⟩)), (1, 1, .pointer (some ⟨d, 0, none⟩)), (2, 3, gv D P S)] = some [.pointer (some ⟨c, 0, none⟩), .pointer (some ⟨d, 0, none⟩), .int .i64 D, .int .i64 P, .int .i64 S] := rfl
 have bd := cellsOf_lt hcl kd.cd
 have bc := cellsOf_lt hcl kc'.cc
 have c1 : (h.push (.cells [.pointer (some ⟨c, 0, none⟩), .pointer (some ⟨d, 0, none⟩), .int .i64 D, .int .i64 P, .int .i64 S] .ex 1)).Closed := closed_push hcl (fun v hv => by
  simp at hv
  rcases hv with rfl | rfl | rfl | rfl | rfl
  ·exact .ptr (by show c < _; omega)
  ·exact .ptr (by show d < _; omega)
  ·exact .int
  ·exact .int
  ·exact .int)
 have g1 : Gr h (h.push (.cells [.pointer (some ⟨c, 0, none⟩), .pointer (some ⟨d, 0, none⟩), .int .i64 D, .int .i64 P, .int .i64 S] .ex 1)) := ⟨Nat.le_succ _, c1, keep_push hcl _⟩
 have f1 := cellsOf_new h [.pointer (some ⟨c, 0, none⟩), .pointer (some ⟨d, 0, none⟩), .int .i64 D, .int .i64 P, .int .i64 S] .ex 1
 simp [fil, mcells]
 refine ⟨⟨h.n, c, k, s, f, gw, d, x, y, z, D, P, S, n1⟩, rfl, ⟨hr, f1, ?_, kd.keepM fun u ob e _ => g1.m u ob e, ⟨hlo.1, hlo.2.1, hlo.2.2.1, hlo.2.2.2, hn1⟩, hu, hsz⟩, g1, Nat.le_refl _, rfl, rfl, rfl, rfl, rfl, rfl, rfl, rfl, rfl⟩
 refine kc.keep ⟨Nat.le_succ _, fun b o e => c1 b o (from_m e).2, fun b o e => ?_⟩
 obtain ⟨q1, q2⟩ := from_m e
 show (if n1 ≤ b then _ else none) = some o
 rw [if_pos q1]
 exact g1.m b o q2
theorem fresh_ok (D P S : Nat) (hr : right D P S = true) (h : Heap) :
  ACalls Tryz.prog 25 [gv D P S] h fun r h' => ∃ A : ArB, r = .tuple #[.pointer (some ⟨A.a, 0, none⟩), .pointer (some ⟨A.d, 0, none⟩)] ∧ ArK h' A (dev0 (allS D P S).toNat) ∧ Gr h h' ∧ h.n ≤ A.a ∧ h.n ≤ A.d ∧ h.n ≤ A.x ∧ h.n ≤ A.y ∧ h.n ≤ A.z ∧ A.D = D ∧ A.P = P ∧ A.S = S := by
 refine acalls_of mix Tryz.func25 k25 n25 (by simp) fun hcl hb => ?_
 have c1 : (h.push (.cells [.int .i64 D, .int .i64 P, .int .i64 S] .ex 1)).Closed := closed_push hcl (fun x hx => by simp at hx; rcases hx with rfl | rfl | rfl <;> exact .int)
 have g1 : Gr h (h.push (.cells [.int .i64 D, .int .i64 P, .int .i64 S] .ex 1)) := ⟨Nat.le_succ _, c1, keep_push hcl _⟩
 have f1 := cellsOf_new h [.int .i64 D, .int .i64 P, .int .i64 S] .ex 1
 simp [c25, gvm, f1, apart, gvc, gva]
 generalize h.push (.cells [.int .i64 D, .int .i64 P, .int .i64 S] .ex 1) = H1 at *
 refine (all_ok D P S H1).mono ?_
 rintro _ h9 ⟨rfl, e⟩
 rw [e]; clear e h9
 obtain ⟨⟨hd1, hd8⟩, ⟨hp2, hp6⟩, hn1, hn8⟩ := right_prop.1 hr
 have ha1 : 18 ≤ allS (D : Int) P S := by
  unfold allS
  rw [if_pos hr]
  have := (slot_bound (d := (D : Int)) (p := P) (s := S)).1
  omega
 have ha2 : allS (D : Int) P S ≤ 354 := allS_le
 obtain ⟨n, hn⟩ : ∃ n : Nat, (allS (D : Int) P S) = n := ⟨(allS (D : Int) P S).toNat, by omega⟩
 rw [hn] at ha1 ha2 ⊢
 have hnt : ((n : Int)).toNat = n := rfl
 rw [hnt]
 simp
 refine (fnew_ok n (by omega) (by omega) H1).mono' ?_
 rintro _ H2 c2 _ ⟨d, x, y, z, rfl, k2, hd, hx, hy, hz, g2⟩
 have g12 := g1.trans g2
 have f2 := cellsOf_keep g2.m f1
 simp [f2, apart, gvc, gva]
 refine (snew_ok D P S hr H2).mono' ?_
 rintro _ H3 c3 _ ⟨c, k, s, f, gw, rfl, k3, g3, hcn⟩
 simp
 have bx := k2.cx
 have kk : DevK H3 d x y z (dev0 n) := k2.keepM fun u ob e _ => g3.m u ob e
 have ld := cellsOf_lt c2 k2.cd
 have lx := cellsOf_lt c2 k2.cx.choose_spec.choose_spec.1
 have ly := cellsOf_lt c2 k2.cy.choose_spec.choose_spec.1
 have lz := cellsOf_lt c2 k2.cz.choose_spec.choose_spec.1
 refine (arnew_ok d x y z c k s f gw D P S H2.n (dev0 n) hr H3 k3 kk ⟨ld, lx, ly, lz⟩ g3.n (dev0_u n (by omega)) (by rw [hn]; simp [dev0])).mono' ?_
 rintro _ H4 c4 _ ⟨A, rfl, k4, g4, ha, e1, e2, e3, e4, e5, e6, e7, e8, e9⟩
 have gT := g12.trans (g3.trans g4)
 have hn1 := g1.n
 have hn2 := g2.n
 have hn3 := g3.n
 simp
 exact ⟨A, ⟨rfl, by rw [e2]⟩, k4, gT, by omega, by omega, by omega, by omega, by omega, e6, e7, e8⟩

theorem v_bN {x : Hd} (hR : rightH x) : (x.vs.flatMap fun k => bN 2 k.toNat) = bN 2 x.a.toNat ++ (bN 2 x.b.toNat ++ bN 2 x.c.toNat) := by simp [Hd.vs]
theorem get_put {x : Hd} (hx : x.hs.length = 32) (hR : rightH x) (s : List UInt8) : getH (putH x ++ s) = (x, 0) := by
 have ra := hR.1 0 (by omega)
 have rb := hR.1 1 (by omega)
 have rc := hR.1 2 (by omega)
 have hn := hR.2
 change rng x.a at ra
 change rng x.b at rb
 change rng x.c at rc
 obtain ⟨a, ea⟩ : ∃ m : Nat, x.a = m := ⟨x.a.toNat, by have := ra.1; omega⟩
 obtain ⟨b, eb'⟩ : ∃ m : Nat, x.b = m := ⟨x.b.toNat, by have := rb.1; omega⟩
 obtain ⟨c, ec⟩ : ∃ m : Nat, x.c = m := ⟨x.c.toNat, by have := rc.1; omega⟩
 obtain ⟨n, en⟩ : ∃ m : Nat, x.n = m := ⟨x.n.toNat, by have := hn.1; omega⟩
 have la : a < 256 ^ 2 := by have := ra.2; rw [ea] at this; show a < 65536; omega
 have lb : b < 256 ^ 2 := by have := rb.2; rw [eb'] at this; show b < 65536; omega
 have lc : c < 256 ^ 2 := by have := rc.2; rw [ec] at this; show c < 65536; omega
 have ln : n < 256 ^ 4 := by have := hn.2; rw [en] at this; show n < 4294967296; omega
 have ta := tk_bN 2 a la
 have tb := tk_bN 2 b lb
 have tc := tk_bN 2 c lc
 have tn4 := tk_bN 4 n ln
 have l1 : (bN 2 a).length = 2 := bN_len _ _
 have l2 : (bN 2 b).length = 2 := bN_len _ _
 have l3 : (bN 2 c).length = 2 := bN_len _ _
 have l4 : (bN 4 n).length = 4 := bN_len _ _
 have hP : putH x = [84, 82, 73, 80] ++ (bN 2 a ++ (bN 2 b ++ (bN 2 c ++ (bN 4 n ++ (x.hs ++ [0, 0]))))) := by
  unfold putH
  rw [v_bN hR, ea, eb', ec, en]
  simp
 have hlen : (putH x).length = 48 := by rw [hP]; simp [l1, l2, l3, l4, hx]
 have hparse : parseH (putH x ++ s) = x := by
  obtain ⟨xa, xb, xc, xn, xh⟩ := x
  dsimp only at *
  subst ea eb' ec en
  rw [hP]
  unfold parseH
  congr 1
  ·simp only [List.append_assoc]
   rw [List.drop_left' (show ([84, 82, 73, 80] : List UInt8).length = 4 from rfl), List.take_left' l1, ta]
  ·simp only [List.append_assoc]
   rw [← List.append_assoc, List.drop_left' (by simp [l1]), List.take_left' l2, tb]
  ·simp only [List.append_assoc]
   rw [← List.append_assoc, ← List.append_assoc, List.drop_left' (by simp [l1, l2]), List.take_left' l3, tc]
  ·simp only [List.append_assoc]
   rw [← List.append_assoc, ← List.append_assoc, ← List.append_assoc, List.drop_left' (by simp [l1, l2, l3]), List.take_left' l4, tn4]
  ·simp only [List.append_assoc]
   rw [← List.append_assoc, ← List.append_assoc, ← List.append_assoc, ← List.append_assoc, List.drop_left' (by simp [l1, l2, l3, l4]), List.take_left' hx]
 unfold getH
 rw [if_neg (by rw [List.length_append]; omega), hparse, List.take_left' hlen, if_pos ⟨hR, rfl⟩]
theorem colF_get (L : List (List UInt8)) (q i : Nat) (h : i < L.length) (h' : i < (colF L q).length) : (colF L q)[i] = L[i][q]! := List.getElem_map _
theorem foldE_col {d p : Nat} {L : List (List UInt8)} (hd : L.length = d) (hp : 0 < p) : ∀ a, a ≤ 60 → ∀ q, q < a → colF (foldE d p L a) q = encW p L q
 | 0, _, q, hq => by omega
 | a + 1, ha, q, hq => by
  have hl := foldE_len d p L a
  have hWl : ∀ q, (encW p L q).length = d + p := fun q => by
   unfold encW
   rw [List.length_append, (Pl.par_len hp _).2]
   unfold colF; rw [List.length_map, hd]
  have h60 := foldE_60 d p L a
  show colF (setK (foldE d p L a) a (encW p L a) (d + p)) q = _
  refine List.ext_getElem ?_ fun i h1 h2 => ?_
  ·unfold colF; rw [List.length_map, setK_len, hl, hWl]
  ·have hi : i < d + p := by rw [hWl] at h2; exact h2
   have hg := setK_get (L := foldE d p L a) (p := a) (w := encW p L a) (d + p) (by omega) i
   rw [if_pos hi, getElem!_pos _ i (by rw [setK_len, hl]; exact hi), getElem!_pos (foldE d p L a) i (by omega), getElem!_pos (encW p L a) i (by rw [hWl]; exact hi)] at hg
   have hx : ((foldE d p L a)[i]'(by omega)).length = 60 := h60 _ (List.getElem_mem _)
   rw [colF_get _ q i (by rw [setK_len, hl]; exact hi), hg]
   by_cases hqa : q = a
   ·subst hqa
    rw [getElem!_pos _ q (by rw [List.length_set]; omega), List.getElem_set_self]
   ·rw [getElem!_pos _ q (by rw [List.length_set]; omega), List.getElem_set_ne (by omega)]
    have ih := foldE_col hd hp a (by omega) q (by omega)
    have : (colF (foldE d p L a) q)[i]'(by unfold colF; rw [List.length_map]; omega) = (encW p L q)[i] := by simp only [ih]
    rw [← this, colF_get _ q i (by omega), getElem!_pos ((foldE d p L a)[i]'(by omega)) q (by omega)]
theorem encB_col {d p : Nat} {L : List (List UInt8)} (hd : L.length = d) (hp : 0 < p) (q : Nat) (hq : q < 60) : colF (encB d p L) q = encW p L q := foldE_col hd hp 60 (Nat.le_refl _) q hq
theorem encB_right {d p : Nat} {L : List (List UInt8)} (hd : L.length = d) (hp : 0 < p) (q : Nat) (hq : q < 60) : rightF p (colF (encB d p L) q) := by
 rw [encB_col hd hp q hq]
 intro j hj
 exact Pl.code_ok hp (colF L q) j hj
theorem encB_60 (d p : Nat) (L : List (List UInt8)) : ∀ x ∈ encB d p L, x.length = 60 := foldE_60 d p L 60
theorem encB_len (d p : Nat) (L : List (List UInt8)) : (encB d p L).length = d + p := foldE_len d p L 60
theorem encB_data {d p : Nat} {L : List (List UInt8)} (hd : L.length = d) (hp : 0 < p) (h60 : ∀ x ∈ L, x.length = 60) : (encB d p L).take d = L := by
 refine List.ext_getElem (by rw [List.length_take, encB_len, hd]; omega) fun i h1 h2 => ?_
 rw [List.getElem_take]
 have hi : i < d := by omega
 have hib : i < (encB d p L).length := by rw [encB_len]; omega
 have hx : ((encB d p L)[i]'hib).length = 60 := encB_60 d p L _ (List.getElem_mem _)
 have hy : (L[i]).length = 60 := h60 _ (List.getElem_mem _)
 refine List.ext_getElem (by rw [hx, hy]) fun q g1 g2 => ?_
 have hc := encB_col hd hp q (by omega)
 have e1 : (colF (encB d p L) q)[i]'(by unfold colF; rw [List.length_map]; exact hib) = ((encB d p L)[i]'hib)[q]! := by unfold colF; rw [List.getElem_map]
 have e2 : (encW p L q)[i]'(by unfold encW colF; simp; omega) = L[i][q]! := by
  unfold encW
  rw [List.getElem_append_left (by unfold colF; rw [List.length_map]; omega)]
  unfold colF; rw [List.getElem_map]
 have e3 : (colF (encB d p L) q)[i]'(by unfold colF; rw [List.length_map]; exact hib) = (encW p L q)[i]'(by unfold encW colF; simp; omega) := by simp only [hc]
 rw [e1, e2, getElem!_pos _ q g1, getElem!_pos _ q g2] at e3
 exact e3
theorem crE_take {b : List UInt8} (h : b.length = 60) : (crE b).take 60 = b := by
 unfold crE
 rw [List.take_append_of_le_length (by omega), List.take_of_length_le (by omega)]
theorem seal_er {B : List (List UInt8)} (h : ∀ x ∈ B, x.length = 60) : erF (B.map crE) = [] := by
 unfold erF
 rw [List.filter_eq_nil_iff]
 intro i hi
 have hi' : i < B.length := by simpa using hi
 rw [getElem!_pos _ i (by rw [List.length_map]; exact hi'), List.getElem_map, crE_take (h _ (List.getElem_mem hi'))]
 simp
theorem seal_wr {B : List (List UInt8)} (n : Nat) (hn : n ≤ B.length) : wrF B (B.map crE) n = [] := by
 unfold wrF
 rw [List.filter_eq_nil_iff]
 intro i hi
 have hi' : i < B.length := by have := List.mem_range.1 hi; omega
 rw [getElem!_pos (B.map crE) i (by rw [List.length_map]; exact hi'), List.getElem_map, getElem!_pos B i hi']
 simp
theorem strF_filled {A : ArB} {V V' : DevS} {a : Nat} {T : List (List UInt8)} (w : Filled A V V' a T A.S) (k : Nat) (hk : k < A.S) : strF A V' a k = secs A ((T.drop (k * A.D)).take A.D) := by
 have hs := secs_len A ((T.drop (k * A.D)).take A.D)
 refine List.ext_getElem (by rw [strF_len, hs]) fun i h1 h2 => ?_
 have hi : i < A.D + A.P := by rw [strF_len] at h1; exact h1
 have := w.at' k i hk hi
 rw [getElem!_pos _ i h2] at this
 rw [← this]
 simp [strF]
theorem splitT_flat : ∀ (n : Nat) (t : List UInt8), t.length ≤ 60 * n → (splitT t n).flatten = t ++ List.replicate (60 * n - t.length) 0
 | 0, t, h => by
  have : t = [] := List.eq_nil_of_length_eq_zero (by omega)
  subst this; rfl
 | n + 1, t, h => by
  show padT t ++ (splitT (t.drop 60) n).flatten = _
  rw [splitT_flat n (t.drop 60) (by rw [List.length_drop]; omega)]
  unfold padT
  by_cases h60 : t.length ≤ 60
  ·rw [List.take_of_length_le h60, List.drop_of_length_le h60, List.nil_append, List.append_assoc, List.replicate_append_replicate]
   congr 2
   simp only [List.length_nil]; omega
  ·rw [show 60 - t.length = 0 by omega, List.replicate_zero, List.append_nil, ← List.append_assoc, List.take_append_drop, List.length_drop]
   congr 2
   omega
theorem chunks_flat (D : Nat) : ∀ (S : Nat) (T : List (List UInt8)), T.length = D * S → ∀ (X : Nat → List (List UInt8)), (∀ k, k < S → X k = (T.drop (k * D)).take D) → ((List.range S).map fun k => (X k).flatten).flatten = T.flatten
 | 0, T, h, X, _ => by
  have : T = [] := List.eq_nil_of_length_eq_zero (by simpa using h)
  subst this; rfl
 | S + 1, T, h, X, hX => by
  have ih := chunks_flat D S (T.take (D * S)) (by rw [List.length_take, h]; exact Nat.min_eq_left (Nat.mul_le_mul_left _ (by omega))) X fun k hk => by
   rw [hX k (by omega), List.drop_take, List.take_take]
   congr 1
   have : (k + 1) * D ≤ S * D := Nat.mul_le_mul_right _ hk
   rw [Nat.add_mul, Nat.one_mul] at this
   rw [Nat.mul_comm D S]
   omega
  rw [List.range_succ, List.map_append, List.flatten_append, ih, List.map_singleton, List.flatten_singleton, hX S (by omega), ← List.flatten_append, Nat.mul_comm S D]
  have hd : (T.drop (D * S)).take D = T.drop (D * S) := List.take_of_length_le (by rw [List.length_drop, h, Nat.mul_add]; omega)
  rw [hd, List.take_append_drop]
theorem ldT_eq (A : ArB) (X : Nat → List (List UInt8)) : ∀ k, ldT A X k = ((List.range k).map fun k => ((X k).take A.D).flatten).flatten
 | 0 => rfl
 | k + 1 => by
  show ldT A X k ++ _ = _
  rw [ldT_eq A X k, List.range_succ, List.map_append, List.flatten_append]
  simp

theorem secs_free {D P S : Nat} (n i : Nat) (h : i < n) : (dev0 n).lock[i]! = false := by
 show (List.replicate n false)[i]! = false
 rw [getElem!_pos _ i (by simpa using h)]
 simp
section
open Go.RowKit Go.ChangeShapes Go.WideShapes
variable {H : Type} {P : Program} {W : World} {enc : TypeId × Value → H}
end
end Go.Proofs.YtdnmkenamgfjoaaGreat.arbf

