/-
  Contracts.
-/
import Derived.Test.YtikpgnkegnedoaaGreatArbg
import Derived.Test.YtikpgnkegnedoaaGreatArbf
import Derived.Test.YtikpgnkegnedoaaGreatArbe
import Derived.Test.YtikpgnkegnedoaaGreatArbd
import Derived.Test.YtikpgnkegnedoaaGreatArbc
import Derived.Test.YtikpgnkegnedoaaGreatArbb
import Derived.Test.YtikpgnkegnedoaaGreatArba
import Derived.Test.YtikpgnkegnedoaaGreatSha
import Derived.Test.YtikpgnkegnedoaaGreatLin1
import Derived.Test.YtikpgnkegnedoaaGreatVers
import Derived.Test.YtikpgnkegnedoaaGreatStr
import Derived.Test.YtikpgnkegnedoaaGreatAbEnter
import Derived.Test.YtikpgnkegnedoaaGreatAbStep
import Derived.Test.YtikpgnkegnedoaaGreatProg
import Derived.IntWalk
import Derived.KernelRfl
set_option linter.unusedSimpArgs false
set_option linter.unusedVariables false
set_option linter.unusedSectionVars false
namespace Go.Proofs.YtikpgnkegnedoaaGreat.arbh
open Go Go.Ab Go.Proofs Go.RowKit Go.Proofs.YtikpgnkegnedoaaGreat.str Go.Proofs.YtikpgnkegnedoaaGreat.vers Go.Proofs.YtikpgnkegnedoaaGreat.lin1 Go.Proofs.YtikpgnkegnedoaaGreat.sha Go.Proofs.YtikpgnkegnedoaaGreat.arba Go.Proofs.YtikpgnkegnedoaaGreat.arbb Go.Proofs.YtikpgnkegnedoaaGreat.arbc Go.Proofs.YtikpgnkegnedoaaGreat.arbd Go.Proofs.YtikpgnkegnedoaaGreat.arbe Go.Proofs.YtikpgnkegnedoaaGreat.arbf Go.Proofs.YtikpgnkegnedoaaGreat.arbg
variable [Inhabited TabBox]
variable [Nonempty GF]
variable [Nonempty GE]
set_option maxRecDepth 100000
attribute [local simp] s_ops s_seq s_cond s_cond_t s_cond_f s_block s_exit s_ret s_skip s_then_n s_then_n' s_then_e s_then_e' s_then_r s_then_r' s_block_n s_block_r s_block_e s_post_r s_post_n s_res0 s_res1 s_res2 s_res3 s_res4 s_nil s_cons s_guard s_guard_tt s_guard_ff s_guard_tf s_guard_ft s_guard_u s_call s_kL s_put s_put0 s_set s_tmp s_const s_func s_glob s_init s_mkF s_mkF0 s_mv s_bin s_pick s_op aop oK_some oK_none bK_some bK_none b_add b_sub b_mul b_quo b_rem b_and b_or b_xor b_andNot b_shl b_shr b_eql b_neq b_lss b_leq b_gtr b_geq b_sadd b_seql b_sneq b_slss b_sleq b_sgtr b_sgeq s_draw s_drawT s_tK s_tT s_tF s_tB s_tR s_stage s_stage0 s_kW s_kR s_rc0 s_rc s_rcg rK_some rK_none rG_b rG_u s_callv s_callv_f s_nextM s_postR_r s_postR_n s_resA0 s_resAt s_resAc s_resC s_tup0 s_tup1 s_tup2 s_tup3
theorem blank_bad : crE (List.replicate 60 255) ≠ List.replicate 64 255 := by decide +kernel
theorem there_nil (a k : Int) (h : Heap) : ACalls Tryz.prog 43 [.pointer none, .int .i64 a, .int .i64 k] h fun r h' => r = .int .i64 1 ∧ h' = h := by
  refine acalls_of mix Tryz.func43 k43 n43 (by simp) fun hcl hb => ?_
  have hq : aeq .ptr (.pointer none) (.pointer none) = some true := rfl
  simp [c43, hq]
theorem aread_nil (a k : Int) (h : Heap) : ACalls Tryz.prog 23 [.pointer none, .int .i64 a, .int .i64 k] h fun r h' => r = .tuple #[.agg #[.slice none 0 0, .slice none 0 0], .int .i64 1] ∧ Gr h h' := by
  refine acalls_ofR mix Tryz.func23 k23 n23 (by simp) fun hcl hb => ?_
  have c0 : (h.push (.cells [.slice none 0 0, .slice none 0 0] .ex 1)).Closed := closed_push hcl (fun x hx => by simp at hx; subst hx; exact .snil)
  have f0 := cellsOf_new h [.slice none 0 0, .slice none 0 0] .ex 1
  have g0 : Gr h (h.push (.cells [.slice none 0 0, .slice none 0 0] .ex 1)) := ⟨Nat.le_succ _, c0, keep_push hcl _⟩
  have fil : afill [.slice none 0 0, .slice none 0 0] [] = some [.slice none 0 0, .slice none 0 0] := rfl
  have hp : aput [.slice none 0 0, .slice none 0 0] 0 [.slice none 0 0, .slice none 0 0] = ([.slice none 0 0, .slice none 0 0] : List Value) := rfl
  have hs : (h.push (.cells [.slice none 0 0, .slice none 0 0] .ex 1)).set h.n (.cells [.slice none 0 0, .slice none 0 0] .ex 1) = h.push (.cells [.slice none 0 0, .slice none 0 0] .ex 1) := set_push _ _ _
  have hac : acut [.slice none 0 0, .slice none 0 0] 0 2 = some ([.slice none 0 0, .slice none 0 0] : List Value) := rfl
  simp [c23]
  refine (there_nil a k _).mono ?_
  rintro _ h9 ⟨rfl, e⟩
  rw [e]; clear e h9
  simp [fil, mcells, f0, hp, hs, apart, hac]
  exact g0
theorem aread_out (A : ArB) (V : DevS) (a k : Int) (ht : thereF A.S a k = false) (h : Heap) (K : ArK h A V) : ACalls Tryz.prog 23 [.pointer (some ⟨A.a, 0, none⟩), .int .i64 a, .int .i64 k] h fun r h' => r = .tuple #[.agg #[.slice none 0 0, .slice none 0 0], .int .i64 2] ∧ Gr h h' := by
  refine acalls_ofR mix Tryz.func23 k23 n23 (by simp) fun hcl hb => ?_
  have c0 : (h.push (.cells [.slice none 0 0, .slice none 0 0] .ex 1)).Closed := closed_push hcl (fun x hx => by simp at hx; subst hx; exact .snil)
  have f0 := cellsOf_new h [.slice none 0 0, .slice none 0 0] .ex 1
  have g0 : Gr h (h.push (.cells [.slice none 0 0, .slice none 0 0] .ex 1)) := ⟨Nat.le_succ _, c0, keep_push hcl _⟩
  have fil : afill [.slice none 0 0, .slice none 0 0] [] = some [.slice none 0 0, .slice none 0 0] := rfl
  have hp : aput [.slice none 0 0, .slice none 0 0] 0 [.slice none 0 0, .slice none 0 0] = ([.slice none 0 0, .slice none 0 0] : List Value) := rfl
  have hs : (h.push (.cells [.slice none 0 0, .slice none 0 0] .ex 1)).set h.n (.cells [.slice none 0 0, .slice none 0 0] .ex 1) = h.push (.cells [.slice none 0 0, .slice none 0 0] .ex 1) := set_push _ _ _
  have hac : acut [.slice none 0 0, .slice none 0 0] 0 2 = some ([.slice none 0 0, .slice none 0 0] : List Value) := rfl
  simp [c23]
  refine (there_ok A V a k _ (K.keep g0)).mono ?_
  rintro _ h9 ⟨rfl, e⟩
  rw [e]; clear e h9
  simp [ht, fil, mcells, f0, hp, hs, apart, hac]
  exact g0
theorem awrite_nil (a k : Int) (v : Value) (h : Heap) : ACalls Tryz.prog 21 [.pointer none, .int .i64 a, .int .i64 k, v] h fun r h' => r = .int .i64 1 ∧ h' = h := by
  refine acalls_of mix Tryz.func21 k21 n21 (by simp) fun hcl hb => ?_
  simp [c21]
  refine (there_nil a k _).mono ?_
  rintro _ h9 ⟨rfl, e⟩
  rw [e]; clear e h9
  simp
theorem awrite_out (A : ArB) (V : DevS) (a k : Int) (ht : thereF A.S a k = false) (v : Value) (h : Heap) (K : ArK h A V) : ACalls Tryz.prog 21 [.pointer (some ⟨A.a, 0, none⟩), .int .i64 a, .int .i64 k, v] h fun r h' => r = .int .i64 2 ∧ h' = h := by
  refine acalls_of mix Tryz.func21 k21 n21 (by simp) fun hcl hb => ?_
  simp [c21]
  refine (there_ok A V a k _ K).mono ?_
  rintro _ h9 ⟨rfl, e⟩
  rw [e]; clear e h9
  simp [ht]
theorem wipe_nil (a : Int) (h : Heap) : ACalls Tryz.prog 20 [.pointer none, .int .i64 a] h fun r h' => r = .int .i64 1 ∧ h' = h := by
  refine acalls_of mix Tryz.func20 k20 n20 (by simp) fun hcl hb => ?_
  simp [c20]
  refine (there_nil a 0 _).mono ?_
  rintro _ h9 ⟨rfl, e⟩
  rw [e]; clear e h9
  simp
theorem load_nil (a : Int) (h : Heap) : ACalls Tryz.prog 22 [.pointer none, .int .i64 a] h fun r h' => r = .tuple #[hv zH, .string (bs []), .int .i64 0, .int .i64 1] ∧ Gr h h' := by
  refine acalls_ofR mix Tryz.func22 k22 n22 (by simp) fun hcl hb => ?_
  have hz36 : z36.length = 36 := by rw [z36_eq]; simp [hc, ubs_len, zH, z32]
  have c0 : (h.push (.cells z36 .ex 1)).Closed := closed_push hcl (by rw [z36_eq]; exact hc_bel)
  have f0 := cellsOf_new h z36 .ex 1
  have g0 : Gr h (h.push (.cells z36 .ex 1)) := ⟨Nat.le_succ _, c0, keep_push hcl _⟩
  have fil : afill z36 [] = some z36 := rfl
  have hp : aput z36 0 z36 = z36 := by
    unfold aput
    rw [List.drop_eq_nil_of_le (by omega)]
    simp
  have hs : (h.push (.cells z36 .ex 1)).set h.n (.cells z36 .ex 1) = h.push (.cells z36 .ex 1) := set_push _ _ _
  have hac : acut z36 0 36 = some z36 := acut_full hz36
  have hv0 : (.agg z36.toArray : Value) = hv zH := by rw [z36_eq]; rfl
  have hm : mcells (.agg z36.toArray) = some z36 := rfl
  simp [c22]
  refine (there_nil a 0 _).mono ?_
  rintro _ h9 ⟨rfl, e⟩
  rw [e]; clear e h9
  simp [fil, hm, f0, hp, hs, apart, hac, hz36, ← hv0]
  exact ⟨rfl, g0⟩
theorem cenc_arg (c k s f : Nat) (gw : Value) (d p n : Nat) (L : List (List UInt8)) (hL : L.length ≠ d) (v : Value) (h : Heap) (hk : CodK h c k s f gw d p n) (hl : BlS h v L) :
    ACalls Tryz.prog 46 [.pointer (some ⟨c, 0, none⟩), v] h fun r h' => r = .tuple #[.slice none 0 0, .int .i64 1] ∧ h' = h := by
  refine acalls_of mix Tryz.func46 k46 n46 (by simp) fun hcl hb => ?_
  have hq : ∀ p, aeq .ptr (.pointer (some p)) (.pointer none) = some false := fun _ => rfl
  have cc := hk.cc
  have hne : ¬ (L.length : Int) = (d : Int) := fun q => hL (by omega)
  obtain ⟨a, cp, rfl⟩ := hl.form
  simp [c46, hq, cc, apart, hne, hL]
theorem awrite_arg (A : ArB) (V : DevS) (a k : Int) (L : List (List UInt8)) (hL : L.length ≠ A.D) (ht : thereF A.S a k = true) (v : Value) (h : Heap) (K : ArK h A V) (hv : BlS h v L) : ACalls Tryz.prog 21 [.pointer (some ⟨A.a, 0, none⟩), .int .i64 a, .int .i64 k, v] h fun r h' => r = .int .i64 1 ∧ h' = h := by
  refine acalls_of mix Tryz.func21 k21 n21 (by simp) fun hcl hb => ?_
  have c1 := K.ca
  simp [c21]
  refine (there_ok A V a k _ K).mono ?_
  rintro _ h9 ⟨rfl, e⟩
  rw [e]; clear e h9
  simp [ht, c1, apart]
  refine (cenc_arg A.c A.k A.s A.f A.gw A.D A.P A.S L hL v h (K.cod hcl) hv).mono ?_
  rintro _ h9 ⟨rfl, e⟩
  rw [e]; clear e h9
  simp

def c24_2 : AC := .seq (.ops [⟨some 52,none,.bin .lss (.tmp 51) (.tmp 50)⟩]) (.seq (.cond (.tmp 52) .skip (.exit 2)) (.seq (.block 3 (.seq (.ops [⟨some 53,none,.iAddrS 1 (.tmp 49) (.tmp 51)⟩,⟨some 54,none,.load none (.tmp 53)⟩,⟨some 15,none,.mv (.tmp 54)⟩]) (.seq (.draw [([⟨some 55,none,.mv (.tmp 0)⟩,⟨some 56,none,.mv (.tmp 1)⟩,⟨some 57,none,.mv (.tmp 2)⟩,⟨some 58,none,.mv (.tmp 15)⟩,⟨some 59,none,.mv (.tmp 0)⟩,⟨some 60,none,.nilck (.tmp 59)⟩,⟨some 61,none,.fAddr 0 (.tmp 60)⟩,⟨some 62,none,.load none (.tmp 61)⟩,⟨some 64,none,.fAddr 0 (.tmp 8)⟩,⟨some 65,none,.load none (.tmp 64)⟩,⟨some 66,none,.mv (.tmp 15)⟩,⟨some 67,none,.iAddrS 60 (.tmp 65) (.tmp 66)⟩,⟨some 68,none,.load (some 60) (.tmp 67)⟩],[⟨some 63,none,.call 55 [.tmp 62]⟩],[⟨some 65,none,.load none (.tmp 64)⟩,⟨some 68,none,.load (some 60) (.tmp 67)⟩]),([],[⟨some 69,none,.call 54 [.tmp 63,.tmp 68]⟩],[]),([],[⟨some 70,none,.call 47 [.tmp 55,.tmp 56,.tmp 57,.tmp 58,.tmp 69]⟩],[]),([⟨some 16,none,.mv (.tmp 70)⟩],[],[])]) (.seq (.ops [⟨some 71,none,.mv (.tmp 16)⟩,⟨some 72,none,.bin .neq (.tmp 71) (.const (.int .i64 0))⟩]) (.cond (.tmp 72) (.seq (.ops [⟨some 73,none,.mv (.tmp 16)⟩,⟨some 10,none,.mv (.tmp 73)⟩]) .ret) .skip))))) (.ops [⟨some 74,none,.bin .add (.tmp 51) (.const (.int .i64 1))⟩,⟨some 51,none,.mv (.tmp 74)⟩])))
def c24_0 : AC := .seq (.ops [⟨some 36,none,.bin .lss (.tmp 35) (.tmp 34)⟩]) (.seq (.cond (.tmp 36) .skip (.exit 0)) (.seq (.block 1 (.seq (.ops [⟨some 37,none,.iAddrS 1 (.tmp 33) (.tmp 35)⟩,⟨some 38,none,.load none (.tmp 37)⟩,⟨some 13,none,.mv (.tmp 38)⟩]) (.seq (.ops [⟨some 39,none,.mv (.tmp 13)⟩,⟨some 40,none,.bin .lss (.tmp 39) (.const (.int .i64 0))⟩,⟨some 41,none,.mv (.tmp 40)⟩,⟨some 42,some (41,false),.mv (.tmp 13)⟩,⟨some 43,some (41,false),.fAddr 0 (.tmp 8)⟩,⟨some 44,some (41,false),.load none (.tmp 43)⟩,⟨some 45,some (41,false),.lenS false (.tmp 44)⟩,⟨some 46,some (41,false),.bin .geq (.tmp 42) (.tmp 45)⟩,⟨some 47,none,.pick (.tmp 41) (.const (.bool true)) (.tmp 46)⟩]) (.cond (.tmp 47) (.seq (.ops [⟨some 10,none,.mv (.const (.int .i64 1))⟩]) .ret) .skip)))) (.ops [⟨some 48,none,.bin .add (.tmp 35) (.const (.int .i64 1))⟩,⟨some 35,none,.mv (.tmp 48)⟩])))
def c24 : AC := .seq (.ops [⟨some 8,none,.box (.tmp 3)⟩,⟨some 10,none,.mv (.const (.int .i64 0))⟩]) (.seq (.seq (.ops [⟨some 17,none,.mv (.tmp 0)⟩,⟨some 18,none,.mv (.tmp 1)⟩,⟨some 19,none,.mv (.tmp 2)⟩,⟨some 20,none,.call 43 [.tmp 17,.tmp 18,.tmp 19]⟩,⟨some 11,none,.mv (.tmp 20)⟩]) (.seq (.ops [⟨some 21,none,.mv (.tmp 11)⟩,⟨some 22,none,.bin .neq (.tmp 21) (.const (.int .i64 0))⟩]) (.cond (.tmp 22) (.seq (.ops [⟨some 23,none,.mv (.tmp 11)⟩,⟨some 10,none,.mv (.tmp 23)⟩]) .ret) .skip))) (.seq (.seq (.draw [([⟨some 24,none,.fAddr 0 (.tmp 8)⟩,⟨some 25,none,.load none (.tmp 24)⟩,⟨some 26,none,.lenS false (.tmp 25)⟩,⟨some 27,none,.mv (.tmp 0)⟩,⟨some 28,none,.nilck (.tmp 27)⟩,⟨some 29,none,.fAddr 2 (.tmp 28)⟩,⟨some 30,none,.load (some 3) (.tmp 29)⟩],[⟨some 31,none,.call 26 [.tmp 30]⟩],[⟨some 25,none,.load none (.tmp 24)⟩]),([⟨some 32,none,.bin .neq (.tmp 26) (.tmp 31)⟩],[],[])]) (.cond (.tmp 32) (.seq (.ops [⟨some 10,none,.mv (.const (.int .i64 1))⟩]) .ret) .skip)) (.seq (.seq (.ops [⟨some 33,none,.mv (.tmp 4)⟩,⟨some 34,none,.lenS false (.tmp 33)⟩,⟨some 35,none,.mv (.const (.int .i64 0))⟩]) (.block 0 (.loop c24_0))) (.seq (.seq (.ops [⟨some 49,none,.mv (.tmp 4)⟩,⟨some 50,none,.lenS false (.tmp 49)⟩,⟨some 51,none,.mv (.const (.int .i64 0))⟩]) (.block 2 (.loop c24_2))) (.seq (.ops [⟨some 10,none,.mv (.const (.int .i64 0))⟩]) .ret)))))
theorem k24 : compF Tryz.prog Tryz.f24 = some (c24, [10]) := by kernel_rfl
theorem n24 : Tryz.f24.ntmps = 75 := by kernel_rfl

structure Rw (A : ArB) (V V' : DevS) (a k : Nat) (T : List (List UInt8)) (ws : List Int) : Prop where
  lk : V'.lock = V.lock
  at' : ∀ i : Nat, i < A.D + A.P → (i : Int) ∈ ws → secF V' (secN A.D A.P A.S a k i) = T[i]!
  no : ∀ m, m < V.lock.length → (∀ i : Nat, (i : Int) ∈ ws → m ≠ secN A.D A.P A.S a k i) → secF V' m = secF V m
theorem Rw.zero (A : ArB) (V : DevS) (a k : Nat) (T : List (List UInt8)) : Rw A V V a k T [] := ⟨rfl, fun _ _ hi => by (cases hi), fun _ _ _ => rfl⟩
theorem Rw.succ {A : ArB} {V V1 V2 : DevS} {a k : Nat} {T : List (List UInt8)} {ws : List Int} {j : Nat} (hS : 0 < A.S) (w : Rw A V V1 a k T ws) (hj : ∀ i, i < A.D + A.P → secN A.D A.P A.S a k i < V.lock.length) (l : Laid V1 V2 (secN A.D A.P A.S a k j) T[j]!) : Rw A V V2 a k T (ws ++ [(j : Int)]) := by
  refine ⟨l.lk.trans w.lk, fun i hi hw => ?_, fun m hm h => ?_⟩
  · rw [l.se _ (by rw [w.lk]; exact hj i hi)]
    by_cases q : i = j
    · subst q; rw [if_pos rfl]
    · rw [if_neg fun e => q (secN_inj hS e)]
      refine w.at' i hi ?_
      rcases List.mem_append.1 hw with h1 | h1
      · exact h1
      · simp at h1; omega
  · rw [l.se m (by rw [w.lk]; exact hm), if_neg (h j (by simp))]
    exact w.no m hm fun i hi => h i (by simp [hi])
theorem rew_out (A : ArB) (V : DevS) (a k : Int) (ht : thereF A.S a k = false) (vb vw wv : Value) (h : Heap) (hbv : VBelow h.n vb) (hbw : VBelow h.n vw) (K : ArK h A V) : ACalls Tryz.prog 24 [.pointer (some ⟨A.a, 0, none⟩), .int .i64 a, .int .i64 k, .agg #[vb, vw], wv] h fun r h' => r = .int .i64 2 ∧ Gr h h' := by
  refine acalls_of mix Tryz.func24 k24 n24 (by simp) fun hcl hb => ?_
  have c1 : (h.push (.cells [vb, vw] .ex 1)).Closed := closed_push hcl (fun x hx => by
    simp at hx
    rcases hx with rfl | rfl
    · exact hbv.mono (Nat.le_succ _)
    · exact hbw.mono (Nat.le_succ _))
  have g1 : Gr h (h.push (.cells [vb, vw] .ex 1)) := ⟨Nat.le_succ _, c1, keep_push hcl _⟩
  simp [c24, mcells]
  refine (there_ok A V a k _ (K.keep g1)).mono ?_
  rintro _ h9 ⟨rfl, e⟩
  rw [e]; clear e h9
  simp [ht]
  exact g1
theorem rew_arg (A : ArB) (V : DevS) (a k : Int) (ht : thereF A.S a k = true) (L : List (List UInt8)) (hL : L.length ≠ A.D + A.P) (vb vw wv : Value) (h : Heap) (hv : BlS h vb L) (hbw : VBelow h.n vw) (K : ArK h A V) : ACalls Tryz.prog 24 [.pointer (some ⟨A.a, 0, none⟩), .int .i64 a, .int .i64 k, .agg #[vb, vw], wv] h fun r h' => r = .int .i64 1 ∧ Gr h h' := by
  refine acalls_of mix Tryz.func24 k24 n24 (by simp) fun hcl hb => ?_
  have c1 : (h.push (.cells [vb, vw] .ex 1)).Closed := closed_push hcl (fun x hx => by
    simp at hx
    rcases hx with rfl | rfl
    · exact (hv.below hcl).mono (Nat.le_succ _)
    · exact hbw.mono (Nat.le_succ _))
  have g1 : Gr h (h.push (.cells [vb, vw] .ex 1)) := ⟨Nat.le_succ _, c1, keep_push hcl _⟩
  have f1 := cellsOf_new h [vb, vw] .ex 1
  have K1 := K.keep g1
  have ca1 := K1.ca
  have hw : wide A.D A.P A.S = ((A.D + A.P : Nat) : Int) := by unfold wide; rw [if_pos K.rt]; omega
  have hne : ¬ (L.length : Int) = ((A.D + A.P : Nat) : Int) := by omega
  have hne2 : ¬ (L.length : Int) = (A.D : Int) + (A.P : Int) := by omega
  obtain ⟨av, cp, rfl⟩ := hv.form
  simp [c24, mcells]
  refine (there_ok A V a k _ K1).mono ?_
  rintro _ h9 ⟨rfl, e⟩
  rw [e]; clear e h9
  simp [ht, f1, apart, ca1, acut_area, gva]
  refine (wide_ok A.D A.P A.S _).mono ?_
  rintro _ h9 ⟨rfl, e⟩
  rw [e]; clear e h9
  rw [hw]
  simp [f1, apart, hne, hne2]
  exact g1
structure RwS where
  j : Nat
  V : DevS
  H : Heap
theorem rew_bad (A : ArB) (V : DevS) (a k : Int) (ht : thereF A.S a k = true) (L : List (List UInt8)) (hL : L.length = A.D + A.P) (ws : List Int) (hwl : ws.length ≤ 1000000) (hbad : ¬ ∀ w ∈ ws, 0 ≤ w ∧ w < (A.D + A.P : Nat)) (vb vw wv : Value) (h : Heap) (hv : BlS h vb L) (hbw : VBelow h.n vw) (hws : Sl cI h wv ws) (K : ArK h A V) : ACalls Tryz.prog 24 [.pointer (some ⟨A.a, 0, none⟩), .int .i64 a, .int .i64 k, .agg #[vb, vw], wv] h fun r h' => r = .int .i64 1 ∧ Gr h h' := by
  refine acalls_of mix Tryz.func24 k24 n24 (by simp) fun hcl hb => ?_
  have c1 : (h.push (.cells [vb, vw] .ex 1)).Closed := closed_push hcl (fun x hx => by
    simp at hx
    rcases hx with rfl | rfl
    · exact (hv.below hcl).mono (Nat.le_succ _)
    · exact hbw.mono (Nat.le_succ _))
  have g1 : Gr h (h.push (.cells [vb, vw] .ex 1)) := ⟨Nat.le_succ _, c1, keep_push hcl _⟩
  have f1 := cellsOf_new h [vb, vw] .ex 1
  have n1 : (h.push (.cells [vb, vw] .ex 1)).n = h.n + 1 := rfl
  have K1 := K.keep g1
  have ca1 := K1.ca
  have hba := cellsOf_lt hcl K.ca
  have hw : wide A.D A.P A.S = ((A.D + A.P : Nat) : Int) := by unfold wide; rw [if_pos K.rt]; omega
  have he1 : (L.length : Int) = (A.D : Int) + (A.P : Int) := by omega
  have hws1 := Sl.keep hws g1.m
  have bw0 : VBelow h.n wv := hb _ (by simp)
  have bw1 := bw0.mono g1.n
  obtain ⟨av, cp, rfl⟩ := hv.form
  obtain ⟨aw, cw, rfl⟩ : ∃ aw cw, wv = .slice aw ws.length cw := by
    rcases hws with ⟨c, rfl, rfl⟩ | ⟨b, o, cap, c, m, e, rfl, _⟩
    · exact ⟨_, _, rfl⟩
    · exact ⟨_, _, rfl⟩
  simp [c24, mcells]
  generalize h.push (.cells [.slice av L.length cp, vw] .ex 1) = H1 at *
  refine (there_ok A V a k _ K1).mono ?_
  rintro _ h9 ⟨rfl, e⟩
  rw [e]; clear e h9
  simp [ht, f1, apart, ca1, acut_area, gva]
  refine (wide_ok A.D A.P A.S _).mono ?_
  rintro _ h9 ⟨rfl, e⟩
  rw [e]; clear e h9
  rw [hw]
  simp [f1, apart, he1]
  refine awp_loop_of (α := Nat) (fun j => j ≤ ws.length ∧ ∀ w ∈ ws.take j, 0 ≤ w ∧ w < (A.D + A.P : Nat)) (fun j => [(0, .pointer (some ⟨A.a, 0, none⟩)), (1, .int .i64 a), (2, .int .i64 k), (4, .slice aw ws.length cw), (8, .pointer (some ⟨h.n, 0, none⟩)), (33, .slice aw ws.length cw), (34, .int .i64 ws.length), (35, .int .i64 (j : Int))]) (fun _ => H1) (fun j => ws.length - j) 0
    ⟨Nat.zero_le _, by simp⟩ ⟨g1.n, Nat.le_refl _, fun _ _ e => e, c1⟩ (by simp; exact ⟨.ptr (by show A.a < _; omega), .int, .int, bw1, .ptr (by show h.n < _; omega), bw1, .int, .int⟩) ?_
  rintro j ⟨hj, hok⟩
  by_cases hlt : j < ws.length
  · have hi' : (j : Int) < (ws.length : Int) := by omega
    have w4 : IntKind.i64.wrap ((j : Int) + 1) = ((j + 1 : Nat) : Int) := by rw [IntWalk.i64_in _ (by omega)]; omega
    obtain ⟨b1, o1, cs, m1, e1, rfl, _, q1, q2⟩ := Sl.at hws1 hlt
    have q3 : cs[o1 + j]? = some (.int .i64 ws[j]) := q2
    by_cases hneg : ws[j] < 0
    · simp [c24_0, hi', aidx_of hlt, q1, apart, q3, hneg, -Int.natCast_add]
      exact g1
    by_cases hbig : (A.D : Int) + (A.P : Int) ≤ ws[j]
    · simp [c24_0, hi', aidx_of hlt, q1, apart, q3, hneg, hbig, f1, he1, -Int.natCast_add]
      exact g1
    simp [c24_0, hi', aidx_of hlt, q1, apart, q3, hneg, hbig, f1, he1, w4, -Int.natCast_add]
    exact ⟨j + 1, by omega, ⟨by omega, fun w hw => by
      rw [List.take_succ_eq_append_getElem hlt] at hw
      rcases List.mem_append.1 hw with h1 | h1
      · exact hok w h1
      · simp at h1; subst h1; omega⟩, ⟨g1.n, Nat.le_refl _, fun _ _ e => e, c1⟩, .ptr (by show A.a < _; omega), .int, .int, bw1, .ptr (by show h.n < _; omega), bw1, .int, rfl, .int⟩
  · have hje : j = ws.length := by omega
    subst hje
    rw [List.take_length] at hok
    exact absurd hok hbad
theorem rew_ok (A : ArB) (V : DevS) (a k : Nat) (ha : a ≤ 2) (hk : k < A.S) (L : List (List UInt8)) (hL : L.length = A.D + A.P) (ws : List Int) (hwl : ws.length ≤ 1000000) (hok : ∀ w ∈ ws, 0 ≤ w ∧ w < (A.D + A.P : Nat)) (vb vw wv : Value) (h : Heap) (hv : ∀ H, ArX A h H → BlS H vb L) (hbw : VBelow h.n vw) (hws : ∀ H, ArX A h H → Sl cI H wv ws) (K : ArK h A V) (hlk : ∀ i, i < A.D + A.P → V.lock[secN A.D A.P A.S a k i]! = false) :
    ACalls Tryz.prog 24 [.pointer (some ⟨A.a, 0, none⟩), .int .i64 (a : Int), .int .i64 (k : Int), .agg #[vb, vw], wv] h fun r h' => r = .int .i64 0 ∧ ∃ V', ArK h' A V' ∧ Rw A V V' a k (L.map crE) ws ∧ ArX A h h' := by
  refine acalls_of mix Tryz.func24 k24 n24 (by simp) fun hcl hb => ?_
  obtain ⟨l1, l2, l3, l4, l5⟩ := K.lo
  have hv0 := hv h (Xd.refl hcl)
  have c1 : (h.push (.cells [vb, vw] .ex 1)).Closed := closed_push hcl (fun x hx => by
    simp at hx
    rcases hx with rfl | rfl
    · exact (hv0.below hcl).mono (Nat.le_succ _)
    · exact hbw.mono (Nat.le_succ _))
  have g1 : Gr h (h.push (.cells [vb, vw] .ex 1)) := ⟨Nat.le_succ _, c1, keep_push hcl _⟩
  have f1 := cellsOf_new h [vb, vw] .ex 1
  have n1 : (h.push (.cells [vb, vw] .ex 1)).n = h.n + 1 := rfl
  have K1 := K.keep g1
  have ca1 := K1.ca
  have hba := cellsOf_lt hcl K.ca
  have hw : wide A.D A.P A.S = ((A.D + A.P : Nat) : Int) := by unfold wide; rw [if_pos K.rt]; omega
  have he1 : (L.length : Int) = (A.D : Int) + (A.P : Int) := by omega
  have hws1 := hws _ (Xd.of g1)
  have bw0 : VBelow h.n wv := hb _ (by simp)
  have bw1 := bw0.mono g1.n
  obtain ⟨av, cp, rfl⟩ := hv0.form
  obtain ⟨aw, cw, rfl⟩ : ∃ aw cw, wv = .slice aw ws.length cw := by
    rcases hws1 with ⟨c, rfl, rfl⟩ | ⟨b, o, cap, c, m, e, rfl, _⟩
    · exact ⟨_, _, rfl⟩
    · exact ⟨_, _, rfl⟩
  have ht := thereF_in (S := A.S) ha hk
  simp [c24, mcells]
  generalize h.push (.cells [.slice av L.length cp, vw] .ex 1) = H1 at *
  refine (there_ok A V a k _ K1).mono ?_
  rintro _ h9 ⟨rfl, e⟩
  rw [e]; clear e h9
  simp [ht, f1, apart, ca1, acut_area, gva]
  refine (wide_ok A.D A.P A.S _).mono ?_
  rintro _ h9 ⟨rfl, e⟩
  rw [e]; clear e h9
  rw [hw]
  simp [f1, apart, he1]
  refine awp_loop_of (α := Nat) (fun j => j ≤ ws.length) (fun j => [(0, .pointer (some ⟨A.a, 0, none⟩)), (1, .int .i64 (a : Int)), (2, .int .i64 (k : Int)), (4, .slice aw ws.length cw), (8, .pointer (some ⟨h.n, 0, none⟩)), (33, .slice aw ws.length cw), (34, .int .i64 ws.length), (35, .int .i64 (j : Int))]) (fun _ => H1) (fun j => ws.length - j) 0
    (Nat.zero_le _) ⟨g1.n, Nat.le_refl _, fun _ _ e => e, c1⟩ (by simp; exact ⟨.ptr (by show A.a < _; omega), .int, .int, bw1, .ptr (by show h.n < _; omega), bw1, .int, .int⟩) ?_
  rintro j hj
  by_cases hlt : j < ws.length
  · have hi' : (j : Int) < (ws.length : Int) := by omega
    have w4 : IntKind.i64.wrap ((j : Int) + 1) = ((j + 1 : Nat) : Int) := by rw [IntWalk.i64_in _ (by omega)]; omega
    obtain ⟨b1, o1, cs, m1, e1, rfl, _, q1, q2⟩ := Sl.at hws1 hlt
    have q3 : cs[o1 + j]? = some (.int .i64 ws[j]) := q2
    have hoj := hok _ (List.getElem_mem hlt)
    have hneg : ¬ ws[j] < 0 := by omega
    have hbig : ¬ (A.D : Int) + (A.P : Int) ≤ ws[j] := by omega
    simp [c24_0, hi', aidx_of hlt, q1, apart, q3, hneg, hbig, f1, he1, w4, -Int.natCast_add]
    exact ⟨j + 1, by omega, by omega, ⟨g1.n, Nat.le_refl _, fun _ _ e => e, c1⟩, .ptr (by show A.a < _; omega), .int, .int, bw1, .ptr (by show h.n < _; omega), bw1, .int, rfl, .int⟩
  have hje : j = ws.length := by omega
  subst hje
  simp [c24_0]
  have hall : ∀ i, i < A.D + A.P → secN A.D A.P A.S a k i < V.lock.length := fun i hi => by have := (secN_lt K.rt ha hk hi).1; have := K.sz; omega
  refine awp_loop_of (α := RwS) (fun z => z.j ≤ ws.length ∧ ArK z.H A z.V ∧ Rw A V z.V a k (L.map crE) (ws.take z.j) ∧ z.H.cellsOf h.n = some ([.slice av L.length cp, vw], .ex, 1) ∧ ArX A h z.H ∧ h.n + 1 ≤ z.H.n ∧ VBelow z.H.n (.slice aw ws.length cw)) (fun z => [(0, .pointer (some ⟨A.a, 0, none⟩)), (1, .int .i64 (a : Int)), (2, .int .i64 (k : Int)), (8, .pointer (some ⟨h.n, 0, none⟩)), (49, .slice aw ws.length cw), (50, .int .i64 ws.length), (51, .int .i64 (z.j : Int))]) (fun z => z.H) (fun z => ws.length - z.j) ⟨0, V, H1⟩
    ⟨Nat.zero_le _, K1, Rw.zero A V a k _, f1, Xd.of g1, by show h.n + 1 ≤ H1.n; omega, bw1⟩ ⟨g1.n, Nat.le_refl _, fun _ _ e => e, c1⟩ (by simp; exact ⟨.ptr (by show A.a < _; omega), .int, .int, .ptr (by show h.n < _; omega), bw1, .int, .int⟩) ?_
  rintro ⟨j, V2, H⟩ ⟨hj2, K2, w2, f2, g2, n2, bw2⟩
  dsimp only at hj2 K2 w2 f2 g2 n2 bw2 ⊢
  by_cases hlt : j < ws.length
  · have hi' : (j : Int) < (ws.length : Int) := by omega
    have w4 : IntKind.i64.wrap ((j : Int) + 1) = ((j + 1 : Nat) : Int) := by rw [IntWalk.i64_in _ (by omega)]; omega
    have hws2 := hws H g2
    obtain ⟨b1, o1, cs, m1, e1, rfl, _, q1, q2⟩ := Sl.at hws2 hlt
    have q3 : cs[o1 + j]? = some (.int .i64 ws[j]) := q2
    have hoj := hok _ (List.getElem_mem hlt)
    obtain ⟨i, hi⟩ : ∃ i : Nat, ws[j] = (i : Int) := ⟨ws[j].toNat, by omega⟩
    rw [hi] at q3 hoj
    have hiL : i < L.length := by omega
    have hiw : i < A.D + A.P := by omega
    have hv2 := hv H g2
    obtain ⟨b3, o3, cs3, m3, e3, rfl, _, q4, q5⟩ := hv2.at hiL
    have h60 : (L[i]).length = 60 := hv2.1 _ (List.getElem_mem hiL)
    have hab : (.agg (ubs L[i]).toArray : Value) = agB L[i] := rfl
    have ca2 := K2.ca
    have cd2 := K2.cod g2.cl
    have haL : aidx (.int .i64 (i : Int)) L.length = some i := aidx_of hiL
    have hT : (L.map crE)[i]! = crE L[i] := by rw [getElem!_pos _ i (by simpa using hiL), List.getElem_map]
    simp [c24_2, hi', aidx_of hlt, q1, apart, q3, ca2, f2, haL, q4, q5, hab, -Int.natCast_add]
    refine (csums_ok A.c A.k A.s A.f A.gw A.D A.P A.S H cd2).mono ?_
    rintro _ h9 ⟨rfl, e⟩
    rw [e]; clear e h9
    simp [f2, apart, haL, q4, q5, hab]
    refine (tagseal_ok A.s L[i] h60 H cd2.cs).mono ?_
    rintro _ h9 ⟨rfl, e⟩
    rw [e]; clear e h9
    simp
    refine (lay_ok A V2 a k i ha hk hiw (crE L[i]) (by rw [crE_len, h60]) H K2 (by rw [w2.lk]; exact hlk i hiw)).mono' ?_
    rintro _ H3 c3 _ ⟨rfl, V3, K3, l3', g3⟩
    rw [← hT] at l3'
    have w3 := w2.succ (by omega) hall l3'
    rw [← hi, ← List.take_succ_eq_append_getElem hlt] at w3
    have g23 := Xd.trans g2 g3
    have f3 : H3.cellsOf h.n = some ([.slice (some ⟨b3, o3, none⟩) L.length cp, vw], .ex, 1) := by
      have := g3.m _ _ (m_of_cells f2) (by omega) (by omega) (by omega) (by omega)
      unfold Heap.cellsOf; rw [this]
    have n3 := g3.n
    simp [w4, -Int.natCast_add]
    exact ⟨⟨j + 1, V3, H3⟩, by show ws.length - (j + 1) < ws.length - j; omega, ⟨by show j + 1 ≤ ws.length; omega, K3, w3, f3, g23, by show h.n + 1 ≤ H3.n; omega, bw2.mono n3⟩, ⟨g23.n, Nat.le_refl _, fun _ _ e => e, c3⟩, .ptr (by show A.a < H3.n; omega), .int, .int, .ptr (by show h.n < H3.n; omega), bw2.mono n3, .int, rfl, .int⟩
  · have hje : j = ws.length := by omega
    subst hje
    rw [List.take_length] at w2
    simp [c24_2]
    exact ⟨V2, K2, w2, g2⟩

theorem secF_blank {n i : Nat} (h : i < n) : secF (dev0 n) i = List.replicate 64 255 := by
  show ((List.replicate (64 * n) (255 : UInt8)).drop (64 * i)).take 64 = _
  rw [List.drop_replicate, List.take_replicate]
  congr 1; omega
theorem erF_blank (n : Nat) : (erF (List.replicate n (List.replicate 64 255))).length = n := by
  unfold erF
  rw [List.filter_eq_self.2 fun i hi => ?_, List.length_range, List.length_replicate]
  have hin : i < n := by simpa using hi
  rw [getElem!_pos _ i (by simpa using hin), List.getElem_replicate, List.take_replicate]
  exact decide_eq_true blank_bad
theorem err_read (A : ArB) (n : Nat) (a k : Int) (h : Heap) (K : ArK h A (dev0 n)) : ACalls Tryz.prog 23 [.pointer (some ⟨A.a, 0, none⟩), .int .i64 a, .int .i64 k] h fun r h' =>
    r = .tuple #[.agg #[.slice none 0 0, .slice none 0 0], .int .i64 (if thereF A.S a k then 8 else 2)] ∧ ∃ q, ArK h' A ((dev0 n).wop q) ∧ ArX A h h' ∧ (thereF A.S a k = false → q = 0) := by
  cases ht : thereF A.S a k
  · refine (aread_out A _ a k ht h K).mono' ?_
    rintro _ h' _ _ ⟨rfl, g⟩
    exact ⟨rfl, 0, K.keep g, Xd.of g, fun _ => rfl⟩
  · obtain ⟨a', k', rfl, rfl, ha, hk⟩ : ∃ a' k' : Nat, a = a' ∧ k = k' ∧ a' ≤ 2 ∧ k' < A.S := by
      unfold thereF at ht
      have := of_decide_eq_true ht
      exact ⟨a.toNat, k.toNat, by omega, by omega, by omega, by omega⟩
    have hlen : (dev0 n).lock.length = n := by show (List.replicate n false).length = n; simp
    have hst : strF A (dev0 n) a' k' = List.replicate (A.D + A.P) (List.replicate 64 255) := by
      refine List.eq_replicate_iff.2 ⟨strF_len _ _ _ _, fun x hx => ?_⟩
      obtain ⟨i, hi, rfl⟩ := List.mem_map.1 hx
      refine secF_blank ?_
      have := (secN_lt K.rt ha hk (List.mem_range.1 hi)).1
      have := K.sz
      omega
    have hD := (right_prop.1 K.rt).1.1
    refine (aread_ok A _ a' k' ha hk none h K fun H v ck sv' => ?_).mono ?_
    · refine cread_many A.c A.k A.s A.f A.gw A.D A.P A.S K.rt _ (fun x hx => ?_) (strF_len _ _ _ _) v H ck sv' ?_
      · rw [hst] at hx; rw [(List.mem_replicate.1 hx).2]; simp
      · rw [hst, erF_blank]; omega
    · rintro r h' ⟨q, K', hr, g⟩
      exact ⟨hr, q, K', g, fun e => by cases e⟩
theorem err_write (A : ArB) (V : DevS) (a k : Int) (L : List (List UInt8)) (v : Value) (h : Heap) (K : ArK h A V) (hv : BlS h v L) (hlk : ∀ a k i, a ≤ 2 → k < A.S → i < A.D + A.P → V.lock[secN A.D A.P A.S a k i]! = false) : ACalls Tryz.prog 21 [.pointer (some ⟨A.a, 0, none⟩), .int .i64 a, .int .i64 k, v] h fun r h' =>
    r = .int .i64 (if thereF A.S a k then (if L.length = A.D then 0 else 1) else 2) ∧ ∃ V', ArK h' A V' ∧ V'.lock = V.lock ∧ ArX A h h' ∧ (thereF A.S a k = false → V'.ops = V.ops) := by
  refine ACalls.closed fun hcl => ?_
  cases ht : thereF A.S a k
  · refine (awrite_out A _ a k ht v h K).mono ?_
    rintro _ h' ⟨rfl, rfl⟩
    exact ⟨rfl, V, K, rfl, Xd.refl hcl, fun _ => rfl⟩
  · by_cases hL : L.length = A.D
    · obtain ⟨a', k', rfl, rfl, ha, hk⟩ : ∃ a' k' : Nat, a = a' ∧ k = k' ∧ a' ≤ 2 ∧ k' < A.S := by
        unfold thereF at ht
        have := of_decide_eq_true ht
        exact ⟨a.toNat, k.toNat, by omega, by omega, by omega, by omega⟩
      refine (awrite_ok A V a' k' ha hk L hL v h K hv fun i hi => hlk a' k' i ha hk hi).mono ?_
      rintro _ h' ⟨rfl, V', K', w, g⟩
      exact ⟨by simp [hL], V', K', w.lk, g, fun e => by cases e⟩
    · refine (awrite_arg A V a k L hL ht v h K hv).mono ?_
      rintro _ h' ⟨rfl, rfl⟩
      exact ⟨by simp [hL], V, K, rfl, Xd.refl hcl, fun e => by cases e⟩
theorem err_rew (A : ArB) (V : DevS) (a k w : Int) (L : List (List UInt8)) (vb vw wv : Value) (h : Heap) (K : ArK h A V) (hv : ∀ H, ArX A h H → BlS H vb L) (hbw : VBelow h.n vw) (hws : ∀ H, ArX A h H → Sl cI H wv [w]) (hlk : ∀ a k i, a ≤ 2 → k < A.S → i < A.D + A.P → V.lock[secN A.D A.P A.S a k i]! = false) : ACalls Tryz.prog 24 [.pointer (some ⟨A.a, 0, none⟩), .int .i64 a, .int .i64 k, .agg #[vb, vw], wv] h fun r h' =>
    r = .int .i64 (if thereF A.S a k then (if L.length = A.D + A.P ∧ 0 ≤ w ∧ w < (A.D + A.P : Nat) then 0 else 1) else 2) ∧ ∃ V', ArK h' A V' ∧ ArX A h h' ∧ (thereF A.S a k = false → V'.ops = V.ops) := by
  refine ACalls.closed fun hcl => ?_
  have hv0 := hv h (Xd.refl hcl)
  cases ht : thereF A.S a k
  · refine (rew_out A _ a k ht vb vw wv h (hv0.below hcl) hbw K).mono ?_
    rintro _ h' ⟨rfl, g⟩
    exact ⟨rfl, V, K.keep g, Xd.of g, fun _ => rfl⟩
  · by_cases hL : L.length = A.D + A.P
    · by_cases hw : 0 ≤ w ∧ w < (A.D + A.P : Nat)
      · obtain ⟨a', k', rfl, rfl, ha, hk⟩ : ∃ a' k' : Nat, a = a' ∧ k = k' ∧ a' ≤ 2 ∧ k' < A.S := by
          unfold thereF at ht
          have := of_decide_eq_true ht
          exact ⟨a.toNat, k.toNat, by omega, by omega, by omega, by omega⟩
        refine (rew_ok A V a' k' ha hk L hL [w] (by simp) (fun x hx => by simp at hx; subst hx; exact hw) vb vw wv h hv hbw hws K fun i hi => hlk a' k' i ha hk hi).mono ?_
        rintro _ h' ⟨rfl, V', K', _, g⟩
        exact ⟨by rw [if_pos rfl, if_pos ⟨hL, hw⟩], V', K', g, fun e => by cases e⟩
      · refine (rew_bad A V a k ht L hL [w] (by simp) (fun q => hw (q w (by simp))) vb vw wv h hv0 hbw (hws h (Xd.refl hcl)) K).mono ?_
        rintro _ h' ⟨rfl, g⟩
        exact ⟨by rw [if_pos rfl, if_neg fun q => hw q.2], V, K.keep g, Xd.of g, fun e => by cases e⟩
    · refine (rew_arg A V a k ht L hL vb vw wv h hv0 hbw K).mono ?_
      rintro _ h' ⟨rfl, g⟩
      exact ⟨by rw [if_pos rfl, if_neg fun q => hL q.1], V, K.keep g, Xd.of g, fun e => by cases e⟩

def c5 : AC := .seq (.ops [⟨some 3,none,.box (.tmp 0)⟩,⟨some 4,none,.box (.tmp 1)⟩,⟨some 6,none,.mv (.const (.bool false))⟩]) (.seq (.seq (.ops [⟨some 22,none,.call 8 []⟩,⟨some 23,none,.un .not (.tmp 22)⟩]) (.cond (.tmp 23) (.seq (.ops [⟨some 6,none,.mv (.const (.bool false))⟩]) .ret) .skip)) (.seq (.seq (.ops [⟨some 24,none,.load (some 3) (.tmp 3)⟩,⟨some 25,none,.call 11 [.tmp 24]⟩,⟨some 26,none,.un .not (.tmp 25)⟩,⟨some 27,none,.mv (.tmp 26)⟩,⟨some 28,some (27,false),.mv (.tmp 2)⟩,⟨some 29,some (27,false),.lenS false (.tmp 28)⟩,⟨some 30,some (27,false),.bin .gtr (.tmp 29) (.const (.int .i64 20))⟩,⟨some 31,none,.pick (.tmp 27) (.const (.bool true)) (.tmp 30)⟩]) (.cond (.tmp 31) (.seq (.ops [⟨some 6,none,.mv (.const (.bool true))⟩]) .ret) .skip)) (.seq (.ops [⟨some 33,none,.load (some 3) (.tmp 3)⟩,⟨some 34,none,.call 13 [.tmp 33]⟩,⟨some 32,none,.mv (.tmp 34)⟩,⟨some 35,none,.extr (.tmp 32) 0⟩,⟨some 36,none,.extr (.tmp 32) 1⟩,⟨some 7,none,.mv (.tmp 35)⟩,⟨some 8,none,.mv (.tmp 36)⟩]) (.seq (.seq (.ops [⟨some 37,none,.mv (.tmp 7)⟩,⟨some 38,none,.eqv false .ptr (.tmp 37) (.const (.pointer none))⟩]) (.cond (.tmp 38) (.seq (.ops [⟨some 6,none,.mv (.const (.bool false))⟩]) .ret) .skip)) (.seq (.ops [⟨some 39,none,.iAddrA 3 1 (.tmp 4) (.const (.int .i64 0))⟩,⟨some 40,none,.load none (.tmp 39)⟩,⟨some 41,none,.bin .geq (.tmp 40) (.const (.int .i64 0))⟩,⟨some 42,none,.mv (.tmp 41)⟩,⟨some 43,some (42,true),.iAddrA 3 1 (.tmp 4) (.const (.int .i64 0))⟩,⟨some 44,some (42,true),.load none (.tmp 43)⟩,⟨some 45,some (42,true),.bin .lss (.tmp 44) (.const (.int .i64 3))⟩,⟨some 46,none,.pick (.tmp 42) (.tmp 45) (.const (.bool false))⟩,⟨some 47,none,.mv (.tmp 46)⟩,⟨some 48,some (47,true),.iAddrA 3 1 (.tmp 4) (.const (.int .i64 1))⟩,⟨some 49,some (47,true),.load none (.tmp 48)⟩,⟨some 50,some (47,true),.bin .geq (.tmp 49) (.const (.int .i64 0))⟩,⟨some 51,none,.pick (.tmp 47) (.tmp 50) (.const (.bool false))⟩,⟨some 52,none,.mv (.tmp 51)⟩,⟨some 53,some (52,true),.iAddrA 3 1 (.tmp 4) (.const (.int .i64 1))⟩,⟨some 54,some (52,true),.load none (.tmp 53)⟩,⟨some 55,some (52,true),.fAddr 2 (.tmp 3)⟩,⟨some 56,some (52,true),.load none (.tmp 55)⟩,⟨some 57,some (52,true),.bin .lss (.tmp 54) (.tmp 56)⟩,⟨some 58,none,.pick (.tmp 52) (.tmp 57) (.const (.bool false))⟩,⟨some 9,none,.mv (.tmp 58)⟩]) (.seq (.ops [⟨some 60,none,.mv (.tmp 7)⟩,⟨some 61,none,.iAddrA 3 1 (.tmp 4) (.const (.int .i64 0))⟩,⟨some 62,none,.load none (.tmp 61)⟩,⟨some 63,none,.iAddrA 3 1 (.tmp 4) (.const (.int .i64 1))⟩,⟨some 64,none,.load none (.tmp 63)⟩,⟨some 65,none,.call 23 [.tmp 60,.tmp 62,.tmp 64]⟩,⟨some 59,none,.mv (.tmp 65)⟩,⟨some 66,none,.extr (.tmp 59) 0⟩,⟨some 67,none,.extr (.tmp 59) 1⟩,⟨some 10,none,.alloc [.slice none 0 0,.slice none 0 0]⟩,⟨none,none,.store 2 (.tmp 10) (.tmp 66)⟩,⟨some 11,none,.mv (.tmp 67)⟩]) (.seq (.ops [⟨some 68,none,.mv (.tmp 7)⟩,⟨some 69,none,.iAddrA 3 1 (.tmp 4) (.const (.int .i64 0))⟩,⟨some 70,none,.load none (.tmp 69)⟩,⟨some 71,none,.iAddrA 3 1 (.tmp 4) (.const (.int .i64 1))⟩,⟨some 72,none,.load none (.tmp 71)⟩,⟨some 73,none,.mv (.tmp 2)⟩,⟨some 74,none,.call 21 [.tmp 68,.tmp 70,.tmp 72,.tmp 73]⟩,⟨some 12,none,.mv (.tmp 74)⟩]) (.seq (.ops [⟨some 75,none,.mv (.tmp 2)⟩,⟨some 76,none,.build [.slice none 0 0,.slice none 0 0] [(0,1,.tmp 75)]⟩,⟨some 13,none,.alloc [.slice none 0 0,.slice none 0 0]⟩,⟨none,none,.store 2 (.tmp 13) (.tmp 76)⟩]) (.seq (.ops [⟨some 77,none,.mv (.tmp 7)⟩,⟨some 78,none,.iAddrA 3 1 (.tmp 4) (.const (.int .i64 0))⟩,⟨some 79,none,.load none (.tmp 78)⟩,⟨some 80,none,.iAddrA 3 1 (.tmp 4) (.const (.int .i64 1))⟩,⟨some 81,none,.load none (.tmp 80)⟩,⟨some 82,none,.load (some 2) (.tmp 13)⟩,⟨some 83,none,.iAddrA 3 1 (.tmp 4) (.const (.int .i64 2))⟩,⟨some 84,none,.load none (.tmp 83)⟩,⟨some 85,none,.buildS 1 [.int .i64 0] [(0,1,.tmp 84)]⟩,⟨some 86,none,.call 24 [.tmp 77,.tmp 79,.tmp 81,.tmp 82,.tmp 85]⟩,⟨some 14,none,.mv (.tmp 86)⟩]) (.seq (.ops [⟨some 15,none,.mv (.const (.pointer none))⟩]) (.seq (.ops [⟨some 88,none,.mv (.tmp 15)⟩,⟨some 89,none,.call 23 [.tmp 88,.const (.int .i64 0),.const (.int .i64 0)]⟩,⟨some 87,none,.mv (.tmp 89)⟩,⟨some 90,none,.extr (.tmp 87) 0⟩,⟨some 91,none,.extr (.tmp 87) 1⟩,⟨some 16,none,.alloc [.slice none 0 0,.slice none 0 0]⟩,⟨none,none,.store 2 (.tmp 16) (.tmp 90)⟩,⟨some 17,none,.mv (.tmp 91)⟩]) (.seq (.ops [⟨some 93,none,.mv (.tmp 15)⟩,⟨some 94,none,.call 22 [.tmp 93,.const (.int .i64 0)]⟩,⟨some 92,none,.mv (.tmp 94)⟩,⟨some 95,none,.extr (.tmp 92) 0⟩,⟨some 96,none,.extr (.tmp 92) 1⟩,⟨some 97,none,.extr (.tmp 92) 2⟩,⟨some 98,none,.extr (.tmp 92) 3⟩,⟨some 18,none,.alloc z36⟩,⟨none,none,.store 36 (.tmp 18) (.tmp 95)⟩,⟨some 19,none,.mv (.tmp 96)⟩,⟨some 20,none,.mv (.tmp 97)⟩,⟨some 21,none,.mv (.tmp 98)⟩]) (.seq (.seq (.ops [⟨some 99,none,.mv (.tmp 17)⟩,⟨some 100,none,.bin .neq (.tmp 99) (.const (.int .i64 1))⟩,⟨some 101,none,.mv (.tmp 100)⟩,⟨some 102,some (101,false),.mv (.tmp 21)⟩,⟨some 103,some (101,false),.bin .neq (.tmp 102) (.const (.int .i64 1))⟩,⟨some 104,none,.pick (.tmp 101) (.const (.bool true)) (.tmp 103)⟩,⟨some 105,none,.mv (.tmp 104)⟩,⟨some 106,some (105,false),.mv (.tmp 15)⟩,⟨some 107,some (105,false),.call 21 [.tmp 106,.const (.int .i64 0),.const (.int .i64 0),.const (.slice none 0 0)]⟩,⟨some 108,some (105,false),.bin .neq (.tmp 107) (.const (.int .i64 1))⟩,⟨some 109,none,.pick (.tmp 105) (.const (.bool true)) (.tmp 108)⟩,⟨some 110,none,.mv (.tmp 109)⟩,⟨some 111,some (110,false),.mv (.tmp 15)⟩,⟨some 112,some (110,false),.call 20 [.tmp 111,.const (.int .i64 0)]⟩,⟨some 113,some (110,false),.bin .neq (.tmp 112) (.const (.int .i64 1))⟩,⟨some 114,none,.pick (.tmp 110) (.const (.bool true)) (.tmp 113)⟩]) (.cond (.tmp 114) (.seq (.ops [⟨some 6,none,.mv (.const (.bool false))⟩]) .ret) .skip)) (.seq (.seq (.ops [⟨some 115,none,.mv (.tmp 9)⟩,⟨some 116,none,.un .not (.tmp 115)⟩]) (.cond (.tmp 116) (.seq (.ops [⟨some 117,none,.mv (.tmp 11)⟩,⟨some 118,none,.bin .eql (.tmp 117) (.const (.int .i64 2))⟩,⟨some 119,none,.mv (.tmp 118)⟩,⟨some 120,some (119,true),.mv (.tmp 12)⟩,⟨some 121,some (119,true),.bin .eql (.tmp 120) (.const (.int .i64 2))⟩,⟨some 122,none,.pick (.tmp 119) (.tmp 121) (.const (.bool false))⟩,⟨some 123,none,.mv (.tmp 122)⟩,⟨some 124,some (123,true),.mv (.tmp 14)⟩,⟨some 125,some (123,true),.bin .eql (.tmp 124) (.const (.int .i64 2))⟩,⟨some 126,none,.pick (.tmp 123) (.tmp 125) (.const (.bool false))⟩,⟨some 127,none,.mv (.tmp 126)⟩,⟨some 128,some (127,true),.mv (.tmp 8)⟩,⟨some 129,some (127,true),.call 25 [.tmp 128]⟩,⟨some 130,some (127,true),.bin .eql (.tmp 129) (.const (.int .i64 0))⟩,⟨some 131,none,.pick (.tmp 127) (.tmp 130) (.const (.bool false))⟩,⟨some 6,none,.mv (.tmp 131)⟩]) .ret) .skip)) (.seq (.seq (.ops [⟨some 132,none,.mv (.tmp 11)⟩,⟨some 133,none,.bin .neq (.tmp 132) (.const (.int .i64 0))⟩,⟨some 134,none,.mv (.tmp 11)⟩,⟨some 135,none,.bin .eql (.tmp 134) (.const (.int .i64 8))⟩,⟨some 136,none,.eqv true .bool (.tmp 133) (.tmp 135)⟩,⟨some 137,none,.mv (.tmp 136)⟩,⟨some 138,some (137,false),.mv (.tmp 12)⟩,⟨some 139,some (137,false),.bin .eql (.tmp 138) (.const (.int .i64 0))⟩,⟨some 140,some (137,false),.mv (.tmp 2)⟩,⟨some 141,some (137,false),.lenS false (.tmp 140)⟩,⟨some 142,some (137,false),.fAddr 0 (.tmp 3)⟩,⟨some 143,some (137,false),.load none (.tmp 142)⟩,⟨some 144,some (137,false),.bin .eql (.tmp 141) (.tmp 143)⟩,⟨some 145,some (137,false),.eqv true .bool (.tmp 139) (.tmp 144)⟩,⟨some 146,none,.pick (.tmp 137) (.const (.bool true)) (.tmp 145)⟩,⟨some 147,none,.mv (.tmp 146)⟩,⟨some 148,some (147,false),.mv (.tmp 12)⟩,⟨some 149,some (147,false),.bin .neq (.tmp 148) (.const (.int .i64 0))⟩,⟨some 150,some (147,false),.mv (.tmp 149)⟩,⟨some 151,some (150,true),.mv (.tmp 12)⟩,⟨some 152,some (150,true),.bin .neq (.tmp 151) (.const (.int .i64 1))⟩,⟨some 153,some (147,false),.pick (.tmp 150) (.tmp 152) (.const (.bool false))⟩,⟨some 154,none,.pick (.tmp 147) (.const (.bool true)) (.tmp 153)⟩]) (.cond (.tmp 154) (.seq (.ops [⟨some 6,none,.mv (.const (.bool false))⟩]) .ret) .skip)) (.seq (.draw [([⟨some 155,none,.mv (.tmp 14)⟩,⟨some 156,none,.bin .eql (.tmp 155) (.const (.int .i64 0))⟩,⟨some 157,none,.mv (.tmp 2)⟩,⟨some 158,none,.lenS false (.tmp 157)⟩,⟨some 159,none,.load (some 3) (.tmp 3)⟩],[⟨some 160,none,.call 26 [.tmp 159]⟩],[]),([⟨some 161,none,.bin .eql (.tmp 158) (.tmp 160)⟩,⟨some 162,none,.mv (.tmp 161)⟩,⟨some 163,some (162,true),.iAddrA 3 1 (.tmp 4) (.const (.int .i64 2))⟩,⟨some 164,some (162,true),.load none (.tmp 163)⟩,⟨some 165,some (162,true),.bin .geq (.tmp 164) (.const (.int .i64 0))⟩,⟨some 166,none,.pick (.tmp 162) (.tmp 165) (.const (.bool false))⟩,⟨some 167,none,.mv (.tmp 166)⟩,⟨some 168,some (167,true),.iAddrA 3 1 (.tmp 4) (.const (.int .i64 2))⟩,⟨some 169,some (167,true),.load none (.tmp 168)⟩,⟨some 170,some (167,true),.load (some 3) (.tmp 3)⟩],[⟨some 171,some (167,true),.call 26 [.tmp 170]⟩],[⟨some 169,some (167,true),.load none (.tmp 168)⟩]),([⟨some 172,some (167,true),.bin .lss (.tmp 169) (.tmp 171)⟩,⟨some 173,none,.pick (.tmp 167) (.tmp 172) (.const (.bool false))⟩,⟨some 174,none,.eqv false .bool (.tmp 156) (.tmp 173)⟩,⟨some 175,none,.mv (.tmp 174)⟩,⟨some 176,some (175,true),.mv (.tmp 14)⟩,⟨some 177,some (175,true),.bin .eql (.tmp 176) (.const (.int .i64 0))⟩,⟨some 178,some (175,true),.mv (.tmp 177)⟩,⟨some 179,some (178,false),.mv (.tmp 14)⟩,⟨some 180,some (178,false),.bin .eql (.tmp 179) (.const (.int .i64 1))⟩,⟨some 181,some (175,true),.pick (.tmp 178) (.const (.bool true)) (.tmp 180)⟩,⟨some 182,none,.pick (.tmp 175) (.tmp 181) (.const (.bool false))⟩,⟨some 6,none,.mv (.tmp 182)⟩],[],[])]) .ret))))))))))))))))
theorem k5 : compF Tryz.prog Tryz.f5 = some (c5, [6]) := by kernel_rfl
theorem n5 : Tryz.f5.ntmps = 183 := by kernel_rfl
theorem areaErrors_T (d p s x y w : Int) (L : List (List UInt8)) (lv : Value) (h : Heap) (hl : BlS h lv L) (h1 : 0 ≤ x) (h2 : x < 3) (h3 : 0 ≤ y) (h4 : y < s) : ACalls Tryz.prog 5 [gv d p s, .agg #[.int .i64 x, .int .i64 y, .int .i64 w], lv] h fun v _ => v = .bool true ∧ True := by
  refine acalls_of mix Tryz.func5 k5 n5 (by simp) fun hcl hb => ?_
  have hq : ∀ p, aeq .ptr (.pointer (some p)) (.pointer none) = some false := fun _ => rfl
  have hmx : mcells (.agg #[.int .i64 x, .int .i64 y, .int .i64 w]) = some [.int .i64 x, .int .i64 y, .int .i64 w] := rfl
  have c1 : (h.push (.cells [.int .i64 d, .int .i64 p, .int .i64 s] .ex 1)).Closed := closed_push hcl (fun x hx => by simp at hx; rcases hx with rfl | rfl | rfl <;> exact .int)
  have f1 := cellsOf_new h [.int .i64 d, .int .i64 p, .int .i64 s] .ex 1
  have n1 : (h.push (.cells [.int .i64 d, .int .i64 p, .int .i64 s] .ex 1)).n = h.n + 1 := rfl
  have g1 : Gr h (h.push (.cells [.int .i64 d, .int .i64 p, .int .i64 s] .ex 1)) := ⟨Nat.le_succ _, c1, keep_push hcl _⟩
  obtain ⟨al, cl, rfl⟩ := hl.form
  simp only [c5, s_seq, s_ops]
  simp [gvm, hmx]
  generalize h.push (.cells [.int .i64 d, .int .i64 p, .int .i64 s] .ex 1) = H1 at *
  have c2 : (H1.push (.cells [.int .i64 x, .int .i64 y, .int .i64 w] .ex 1)).Closed := closed_push c1 (fun x hx => by simp at hx; rcases hx with rfl | rfl | rfl <;> exact .int)
  have g2 : Gr H1 (H1.push (.cells [.int .i64 x, .int .i64 y, .int .i64 w] .ex 1)) := ⟨Nat.le_succ _, c2, keep_push c1 _⟩
  have f2 := cellsOf_keep g2.m f1
  have k2 := cellsOf_new H1 [.int .i64 x, .int .i64 y, .int .i64 w] .ex 1
  rw [n1] at k2
  have n2 : (H1.push (.cells [.int .i64 x, .int .i64 y, .int .i64 w] .ex 1)).n = h.n + 1 + 1 := by show H1.n + 1 = _; rw [n1]
  generalize H1.push (.cells [.int .i64 x, .int .i64 y, .int .i64 w] .ex 1) = H2 at *
  have b2 := (hl.keep g1.m).keep g2.m
  refine (arawake_ok H2).mono ?_
  rintro _ h9 ⟨rfl, e⟩
  rw [e]; clear e h9
  simp [aun, f2, apart, gvc, gva]
  refine (gRefRight_ok d p s H2).mono ?_
  rintro _ h9 ⟨rfl, e⟩
  rw [e]; clear e h9
  cases hr : right d p s
  · simp [aun]
  by_cases hbig : (20 : Int) < (L.length : Int)
  · simp [aun, hbig]
  obtain ⟨D, P, S, rfl, rfl, rfl⟩ := nats_of hr
  simp [aun, hbig, f2, apart, gvc, gva]
  refine (fresh_ok D P S hr H2).mono' ?_
  rintro _ H3 c3 _ ⟨A, rfl, K3, g3, ha, hd, hx, hy, hz, hD, hP, hS⟩
  have kx : ∀ {Hb : Heap}, ArX A H3 Hb → ∀ u ob, H2.m u = some ob → Hb.m u = some ob := fun g u ob e => by
    have := (c2 u ob e).1
    exact g.m u ob (g3.m u ob e) (by omega) (by omega) (by omega) (by omega)
  have fx : ∀ {Hb : Heap}, ArX A H3 Hb → Hb.cellsOf h.n = some ([.int .i64 D, .int .i64 P, .int .i64 S], .ex, 1) := fun g => cellsOf_keep (kx g) f2
  have kxx : ∀ {Hb : Heap}, ArX A H3 Hb → Hb.cellsOf (h.n + 1) = some ([.int .i64 x, .int .i64 y, .int .i64 w], .ex, 1) := fun g => cellsOf_keep (kx g) k2
  have f3 := fx (Xd.refl c3)
  have k3 := kxx (Xd.refl c3)
  have i0 : aidx (.int .i64 0) 3 = some 0 := rfl
  have i1 : aidx (.int .i64 1) 3 = some 1 := rfl
  have i2 : aidx (.int .i64 2) 3 = some 2 := rfl
  have free : ∀ a k i, a ≤ 2 → k < A.S → i < A.D + A.P → (dev0 (allS (D : Int) P S).toNat).lock[secN A.D A.P A.S a k i]! = false := fun a k i ha hk hi => secs_free (D := D) (P := P) (S := S) _ _ (by
    have := (secN_lt K3.rt ha hk hi).1
    rw [hD, hP, hS] at this
    rw [hD, hP, hS]
    omega)
  have ht : thereF A.S x y = true := by
    unfold thereF
    exact decide_eq_true (by rw [hS]; omega)
  simp [hq, i0, i1, i2, f3, k3, apart, h1, h2, h3, h4]
  refine (err_read A _ x y H3 K3).mono' ?_
  rintro _ H4 c4 _ ⟨rfl, q, K4, g4, o4⟩
  rw [ht] at o4 ⊢
  have c5 : (H4.push (.cells [.slice none 0 0, .slice none 0 0] .ex 1)).Closed := closed_push c4 (fun x hx => by simp at hx; subst hx; exact .snil)
  have g45 : Gr H4 (H4.push (.cells [.slice none 0 0, .slice none 0 0] .ex 1)) := ⟨Nat.le_succ _, c5, keep_push c4 _⟩
  have e5 := cellsOf_new H4 [.slice none 0 0, .slice none 0 0] .ex 1
  have hp5 : aput [.slice none 0 0, .slice none 0 0] 0 [.slice none 0 0, .slice none 0 0] = ([.slice none 0 0, .slice none 0 0] : List Value) := rfl
  have hs5 : ∀ (H : Heap), (H.push (.cells [.slice none 0 0, .slice none 0 0] .ex 1)).set H.n (.cells [.slice none 0 0, .slice none 0 0] .ex 1) = H.push (.cells [.slice none 0 0, .slice none 0 0] .ex 1) := fun H => set_push _ _ _
  have hm5 : mcells (.agg #[.slice none 0 0, .slice none 0 0]) = some [.slice none 0 0, .slice none 0 0] := rfl
  have K5 := K4.keep g45
  have g5 := Xd.trans g4 (Xd.of g45)
  simp [e5, hp5, hs5, hm5]
  generalize H4.push (.cells [.slice none 0 0, .slice none 0 0] .ex 1) = H5 at *
  have k5 := kxx g5
  have f5 := fx g5
  simp [i0, i1, i2, f5, k5, apart]
  refine (err_write A _ x y L _ H5 K5 (b2.keep (kx g5)) free).mono' ?_
  rintro _ H6 c6 _ ⟨rfl, V6, K6, l6, g6, o6⟩
  rw [ht] at o6 ⊢
  have g6' := Xd.trans g5 g6
  have b6 := b2.keep (kx g6')
  obtain ⟨vl, hvl⟩ : ∃ vl : Value, (.slice al L.length cl : Value) = vl := ⟨_, rfl⟩
  have blw := (b6.below c6)
  rw [hvl] at b2 b6 blw
  have fil7 : afill [.slice none 0 0, .slice none 0 0] [(0, 1, .slice al L.length cl)] = some [vl, .slice none 0 0] := by subst hvl; rfl
  have c7 : (H6.push (.cells [vl, .slice none 0 0] .ex 1)).Closed := closed_push c6 (fun x hx => by
    simp at hx
    rcases hx with rfl | rfl
    · exact blw.mono (Nat.le_succ _)
    · exact .snil)
  have g67 : Gr H6 (H6.push (.cells [vl, .slice none 0 0] .ex 1)) := ⟨Nat.le_succ _, c7, keep_push c6 _⟩
  have e7 := cellsOf_new H6 [vl, .slice none 0 0] .ex 1
  have e70 := cellsOf_new H6 [.slice none 0 0, .slice none 0 0] .ex 1
  have hp7 : aput [.slice none 0 0, .slice none 0 0] 0 [vl, .slice none 0 0] = ([vl, .slice none 0 0] : List Value) := rfl
  have hs7 : (H6.push (.cells [.slice none 0 0, .slice none 0 0] .ex 1)).set H6.n (.cells [vl, .slice none 0 0] .ex 1) = H6.push (.cells [vl, .slice none 0 0] .ex 1) := set_push _ _ _
  have hm7 : mcells (.agg #[vl, .slice none 0 0]) = some [vl, .slice none 0 0] := rfl
  have K7 := K6.keep g67
  have g7 := Xd.trans g6' (Xd.of g67)
  have n7 : (H6.push (.cells [vl, .slice none 0 0] .ex 1)).n = H6.n + 1 := rfl
  simp [fil7, hm7, e70, hp7, hs7]
  generalize H6.push (.cells [vl, .slice none 0 0] .ex 1) = H7 at *
  have k7 := kxx g7
  have ac7 : acut [vl, .slice none 0 0] 0 2 = some [vl, .slice none 0 0] := rfl
  have fil8 : afill [.int .i64 0] [(0, 1, .int .i64 w)] = some [cI w] := rfl
  have c8 : (H7.push (.cells [cI w] .ex 1)).Closed := closed_push c7 (fun x hx => by simp at hx; subst hx; exact .int)
  have g78 : Gr H7 (H7.push (.cells [cI w] .ex 1)) := ⟨Nat.le_succ _, c8, keep_push c7 _⟩
  have e8 := cellsOf_new H7 [cI w] .ex 1
  have K8 := K7.keep g78
  have g8 := Xd.trans g7 (Xd.of g78)
  have hn37 : H3.n ≤ H7.n := g7.n
  obtain ⟨l31, l32, l33, l34, l35⟩ := K3.lo
  have hab : (.agg #[vl, .slice none 0 0] : Value) = .agg #[vl, .slice none 0 0] := rfl
  simp [i0, i1, i2, k7, e7, ac7, fil8, apart]
  have a3n : A.a < H3.n := cellsOf_lt c3 K3.ca
  refine (err_rew A V6 x y w L vl (.slice none 0 0) (.slice (some ⟨H7.n, 0, none⟩) 1 1) _ K8 (fun H g => b2.keep (kx (Xd.trans g8 g))) .snil (fun H g => .inr ⟨H7.n, 0, 1, [cI w], .ex, 1, rfl, ?_, by simp, by simp, fun i hi => ?_⟩) (fun a k i ha hk hi => by rw [l6]; exact free a k i ha hk hi)).mono' ?_
  · have := g.m _ _ (m_of_cells e8) (by omega) (by omega) (by omega) (by omega)
    unfold Heap.cellsOf; rw [this]
  · have : i = 0 := by simpa using hi
    subst this; rfl
  rintro _ H9 c9 _ ⟨rfl, V9, K9, g9, o9⟩
  rw [ht] at o9 ⊢
  simp
  refine (aread_nil 0 0 H9).mono' ?_
  rintro _ H10 c10 _ ⟨rfl, g10⟩
  have e10 := cellsOf_new H10 [.slice none 0 0, .slice none 0 0] .ex 1
  have c11 : (H10.push (.cells [.slice none 0 0, .slice none 0 0] .ex 1)).Closed := closed_push c10 (fun x hx => by simp at hx; subst hx; exact .snil)
  have g1011 : Gr H10 (H10.push (.cells [.slice none 0 0, .slice none 0 0] .ex 1)) := ⟨Nat.le_succ _, c11, keep_push c10 _⟩
  simp [e10, hp5, hs5, hm5]
  generalize H10.push (.cells [.slice none 0 0, .slice none 0 0] .ex 1) = H11 at *
  refine (load_nil 0 H11).mono' ?_
  rintro _ H12 c12 _ ⟨rfl, g12⟩
  have hz36 : z36.length = 36 := by rw [z36_eq]; simp [hc, ubs_len, zH, z32]
  have fz := cellsOf_new H12 z36 .ex 1
  have hpz : aput z36 0 z36 = z36 := by
    unfold aput
    rw [List.drop_eq_nil_of_le (by omega)]
    simp
  have hcz : hc zH = z36 := z36_eq.symm
  have hsz : (H12.push (.cells z36 .ex 1)).set H12.n (.cells z36 .ex 1) = H12.push (.cells z36 .ex 1) := set_push _ _ _
  have c13 : (H12.push (.cells z36 .ex 1)).Closed := closed_push c12 (by rw [z36_eq]; exact hc_bel)
  have g1213 : Gr H12 (H12.push (.cells z36 .ex 1)) := ⟨Nat.le_succ _, c13, keep_push c12 _⟩
  simp [fz, m_hv, hcz, hz36, hpz, hsz]
  generalize H12.push (.cells z36 .ex 1) = H13 at *
  refine (awrite_nil 0 0 _ H13).mono ?_
  rintro _ h9 ⟨rfl, e⟩
  rw [e]; clear e h9
  simp
  refine (wipe_nil 0 H13).mono ?_
  rintro _ h9 ⟨rfl, e⟩
  rw [e]; clear e h9
  have g13 : ArX A H3 H13 := Xd.trans (Xd.trans g8 g9) (Xd.of (g10.trans (g1011.trans (g12.trans g1213))))
  have K13 := K9.keep (g10.trans (g1011.trans (g12.trans g1213)))
  have f13 := fx g13
  have k13 := kxx g13
  have hb0 : ∀ t u : Bool, aeq .bool (.bool t) (.bool u) = some (t == u) := fun t u => rfl
  have hw : wide D P S = (D : Int) + (P : Int) := by unfold wide; rw [if_pos hr]
  obtain ⟨⟨hd1, hd8⟩, ⟨hp2, hp6⟩, hn1, hn8⟩ := right_prop.1 hr
  have hDi : (L.length = A.D) = ((L.length : Int) = (D : Int)) := by rw [hD]; exact propext (by omega)
  have hWi : (L.length = A.D + A.P) = ((L.length : Int) = (D : Int) + (P : Int)) := by rw [hD, hP]; exact propext (by omega)
  have hwi : (((A.D + A.P : Nat) : Int)) = (D : Int) + (P : Int) := by rw [hD, hP]; omega
  subst hvl
  simp only [hDi, hWi, hwi]
  have hP0 : ¬ P = 0 := by omega
  have hP1 : ¬ (D : Int) = (D : Int) + (P : Int) := by omega
  have hP2 : ¬ (D : Int) + (P : Int) = (D : Int) := by omega
  by_cases q1 : (L.length : Int) = (D : Int)
  · have q2 : ¬ (L.length : Int) = (D : Int) + (P : Int) := by omega
    have q3 : L.length = D := by omega
    simp [aun, hb0, q1, q2, q3, hP0, hP1, hP2, f13, k13, apart, gvc, gva]
    refine (wide_ok D P S H13).mono ?_
    rintro _ h9 ⟨rfl, e⟩
    rw [e]; clear e h9
    rw [hw]
    simp [aun, hb0, q1, q2, q3, hP0, hP1, hP2, f13, k13, apart, gvc, gva, i2]
  · have q3 : ¬ L.length = D := by omega
    by_cases q2 : (L.length : Int) = (D : Int) + (P : Int)
    · have q4 : L.length = D + P := by omega
      simp [aun, hb0, q1, q2, q3, q4, hP0, hP1, hP2, f13, k13, apart, gvc, gva]
      refine (wide_ok D P S H13).mono ?_
      rintro _ h9 ⟨rfl, e⟩
      rw [e]; clear e h9
      rw [hw]
      by_cases hw0 : 0 ≤ w
      · simp [aun, hb0, q1, q2, q3, q4, hP0, hP1, hP2, hw0, f13, k13, apart, gvc, gva, i2]
        refine (wide_ok D P S H13).mono ?_
        rintro _ h9 ⟨rfl, e⟩
        rw [e]; clear e h9
        rw [hw]
        by_cases hw1 : w < (D : Int) + (P : Int)
        · simp [aun, hb0, q1, q2, q3, q4, hP0, hP1, hP2, hw0, hw1, hD, hP, f13, k13, apart, gvc, gva, i2]
        · simp [aun, hb0, q1, q2, q3, q4, hP0, hP1, hP2, hw0, hw1, hD, hP, f13, k13, apart, gvc, gva, i2]
      · simp [aun, hb0, q1, q2, q3, q4, hP0, hP1, hP2, hw0, f13, k13, apart, gvc, gva, i2]
    · simp [aun, hb0, q1, q2, q3, hP0, hP1, hP2, f13, k13, apart, gvc, gva]
      refine (wide_ok D P S H13).mono ?_
      rintro _ h9 ⟨rfl, e⟩
      rw [e]; clear e h9
      rw [hw]
      simp [aun, hb0, q1, q2, q3, hP0, hP1, hP2, f13, k13, apart, gvc, gva, i2]
theorem areaErrors_F1 (d p s x y w : Int) (L : List (List UInt8)) (lv : Value) (h : Heap) (hl : BlS h lv L) (h1 : x < 0) : ACalls Tryz.prog 5 [gv d p s, .agg #[.int .i64 x, .int .i64 y, .int .i64 w], lv] h fun v _ => v = .bool true ∧ True := by
  refine acalls_of mix Tryz.func5 k5 n5 (by simp) fun hcl hb => ?_
  have hq : ∀ p, aeq .ptr (.pointer (some p)) (.pointer none) = some false := fun _ => rfl
  have hmx : mcells (.agg #[.int .i64 x, .int .i64 y, .int .i64 w]) = some [.int .i64 x, .int .i64 y, .int .i64 w] := rfl
  have c1 : (h.push (.cells [.int .i64 d, .int .i64 p, .int .i64 s] .ex 1)).Closed := closed_push hcl (fun x hx => by simp at hx; rcases hx with rfl | rfl | rfl <;> exact .int)
  have f1 := cellsOf_new h [.int .i64 d, .int .i64 p, .int .i64 s] .ex 1
  have n1 : (h.push (.cells [.int .i64 d, .int .i64 p, .int .i64 s] .ex 1)).n = h.n + 1 := rfl
  have g1 : Gr h (h.push (.cells [.int .i64 d, .int .i64 p, .int .i64 s] .ex 1)) := ⟨Nat.le_succ _, c1, keep_push hcl _⟩
  obtain ⟨al, cl, rfl⟩ := hl.form
  simp only [c5, s_seq, s_ops]
  simp [gvm, hmx]
  generalize h.push (.cells [.int .i64 d, .int .i64 p, .int .i64 s] .ex 1) = H1 at *
  have c2 : (H1.push (.cells [.int .i64 x, .int .i64 y, .int .i64 w] .ex 1)).Closed := closed_push c1 (fun x hx => by simp at hx; rcases hx with rfl | rfl | rfl <;> exact .int)
  have g2 : Gr H1 (H1.push (.cells [.int .i64 x, .int .i64 y, .int .i64 w] .ex 1)) := ⟨Nat.le_succ _, c2, keep_push c1 _⟩
  have f2 := cellsOf_keep g2.m f1
  have k2 := cellsOf_new H1 [.int .i64 x, .int .i64 y, .int .i64 w] .ex 1
  rw [n1] at k2
  have n2 : (H1.push (.cells [.int .i64 x, .int .i64 y, .int .i64 w] .ex 1)).n = h.n + 1 + 1 := by show H1.n + 1 = _; rw [n1]
  generalize H1.push (.cells [.int .i64 x, .int .i64 y, .int .i64 w] .ex 1) = H2 at *
  have b2 := (hl.keep g1.m).keep g2.m
  refine (arawake_ok H2).mono ?_
  rintro _ h9 ⟨rfl, e⟩
  rw [e]; clear e h9
  simp [aun, f2, apart, gvc, gva]
  refine (gRefRight_ok d p s H2).mono ?_
  rintro _ h9 ⟨rfl, e⟩
  rw [e]; clear e h9
  cases hr : right d p s
  · simp [aun]
  by_cases hbig : (20 : Int) < (L.length : Int)
  · simp [aun, hbig]
  obtain ⟨D, P, S, rfl, rfl, rfl⟩ := nats_of hr
  simp [aun, hbig, f2, apart, gvc, gva]
  refine (fresh_ok D P S hr H2).mono' ?_
  rintro _ H3 c3 _ ⟨A, rfl, K3, g3, ha, hd, hx, hy, hz, hD, hP, hS⟩
  have kx : ∀ {Hb : Heap}, ArX A H3 Hb → ∀ u ob, H2.m u = some ob → Hb.m u = some ob := fun g u ob e => by
    have := (c2 u ob e).1
    exact g.m u ob (g3.m u ob e) (by omega) (by omega) (by omega) (by omega)
  have fx : ∀ {Hb : Heap}, ArX A H3 Hb → Hb.cellsOf h.n = some ([.int .i64 D, .int .i64 P, .int .i64 S], .ex, 1) := fun g => cellsOf_keep (kx g) f2
  have kxx : ∀ {Hb : Heap}, ArX A H3 Hb → Hb.cellsOf (h.n + 1) = some ([.int .i64 x, .int .i64 y, .int .i64 w], .ex, 1) := fun g => cellsOf_keep (kx g) k2
  have f3 := fx (Xd.refl c3)
  have k3 := kxx (Xd.refl c3)
  have i0 : aidx (.int .i64 0) 3 = some 0 := rfl
  have i1 : aidx (.int .i64 1) 3 = some 1 := rfl
  have i2 : aidx (.int .i64 2) 3 = some 2 := rfl
  have free : ∀ a k i, a ≤ 2 → k < A.S → i < A.D + A.P → (dev0 (allS (D : Int) P S).toNat).lock[secN A.D A.P A.S a k i]! = false := fun a k i ha hk hi => secs_free (D := D) (P := P) (S := S) _ _ (by
    have := (secN_lt K3.rt ha hk hi).1
    rw [hD, hP, hS] at this
    rw [hD, hP, hS]
    omega)
  have ht : thereF A.S x y = false := by
    unfold thereF
    exact decide_eq_false (by rw [hS]; omega)
  simp [hq, i0, i1, i2, f3, k3, apart, show ¬ 0 ≤ x by omega]
  refine (err_read A _ x y H3 K3).mono' ?_
  rintro _ H4 c4 _ ⟨rfl, q, K4, g4, o4⟩
  rw [ht] at o4 ⊢
  have c5 : (H4.push (.cells [.slice none 0 0, .slice none 0 0] .ex 1)).Closed := closed_push c4 (fun x hx => by simp at hx; subst hx; exact .snil)
  have g45 : Gr H4 (H4.push (.cells [.slice none 0 0, .slice none 0 0] .ex 1)) := ⟨Nat.le_succ _, c5, keep_push c4 _⟩
  have e5 := cellsOf_new H4 [.slice none 0 0, .slice none 0 0] .ex 1
  have hp5 : aput [.slice none 0 0, .slice none 0 0] 0 [.slice none 0 0, .slice none 0 0] = ([.slice none 0 0, .slice none 0 0] : List Value) := rfl
  have hs5 : ∀ (H : Heap), (H.push (.cells [.slice none 0 0, .slice none 0 0] .ex 1)).set H.n (.cells [.slice none 0 0, .slice none 0 0] .ex 1) = H.push (.cells [.slice none 0 0, .slice none 0 0] .ex 1) := fun H => set_push _ _ _
  have hm5 : mcells (.agg #[.slice none 0 0, .slice none 0 0]) = some [.slice none 0 0, .slice none 0 0] := rfl
  have K5 := K4.keep g45
  have g5 := Xd.trans g4 (Xd.of g45)
  simp [e5, hp5, hs5, hm5]
  generalize H4.push (.cells [.slice none 0 0, .slice none 0 0] .ex 1) = H5 at *
  have k5 := kxx g5
  have f5 := fx g5
  simp [i0, i1, i2, f5, k5, apart]
  refine (err_write A _ x y L _ H5 K5 (b2.keep (kx g5)) free).mono' ?_
  rintro _ H6 c6 _ ⟨rfl, V6, K6, l6, g6, o6⟩
  rw [ht] at o6 ⊢
  have g6' := Xd.trans g5 g6
  have b6 := b2.keep (kx g6')
  obtain ⟨vl, hvl⟩ : ∃ vl : Value, (.slice al L.length cl : Value) = vl := ⟨_, rfl⟩
  have blw := (b6.below c6)
  rw [hvl] at b2 b6 blw
  have fil7 : afill [.slice none 0 0, .slice none 0 0] [(0, 1, .slice al L.length cl)] = some [vl, .slice none 0 0] := by subst hvl; rfl
  have c7 : (H6.push (.cells [vl, .slice none 0 0] .ex 1)).Closed := closed_push c6 (fun x hx => by
    simp at hx
    rcases hx with rfl | rfl
    · exact blw.mono (Nat.le_succ _)
    · exact .snil)
  have g67 : Gr H6 (H6.push (.cells [vl, .slice none 0 0] .ex 1)) := ⟨Nat.le_succ _, c7, keep_push c6 _⟩
  have e7 := cellsOf_new H6 [vl, .slice none 0 0] .ex 1
  have e70 := cellsOf_new H6 [.slice none 0 0, .slice none 0 0] .ex 1
  have hp7 : aput [.slice none 0 0, .slice none 0 0] 0 [vl, .slice none 0 0] = ([vl, .slice none 0 0] : List Value) := rfl
  have hs7 : (H6.push (.cells [.slice none 0 0, .slice none 0 0] .ex 1)).set H6.n (.cells [vl, .slice none 0 0] .ex 1) = H6.push (.cells [vl, .slice none 0 0] .ex 1) := set_push _ _ _
  have hm7 : mcells (.agg #[vl, .slice none 0 0]) = some [vl, .slice none 0 0] := rfl
  have K7 := K6.keep g67
  have g7 := Xd.trans g6' (Xd.of g67)
  have n7 : (H6.push (.cells [vl, .slice none 0 0] .ex 1)).n = H6.n + 1 := rfl
  simp [fil7, hm7, e70, hp7, hs7]
  generalize H6.push (.cells [vl, .slice none 0 0] .ex 1) = H7 at *
  have k7 := kxx g7
  have ac7 : acut [vl, .slice none 0 0] 0 2 = some [vl, .slice none 0 0] := rfl
  have fil8 : afill [.int .i64 0] [(0, 1, .int .i64 w)] = some [cI w] := rfl
  have c8 : (H7.push (.cells [cI w] .ex 1)).Closed := closed_push c7 (fun x hx => by simp at hx; subst hx; exact .int)
  have g78 : Gr H7 (H7.push (.cells [cI w] .ex 1)) := ⟨Nat.le_succ _, c8, keep_push c7 _⟩
  have e8 := cellsOf_new H7 [cI w] .ex 1
  have K8 := K7.keep g78
  have g8 := Xd.trans g7 (Xd.of g78)
  have hn37 : H3.n ≤ H7.n := g7.n
  obtain ⟨l31, l32, l33, l34, l35⟩ := K3.lo
  have hab : (.agg #[vl, .slice none 0 0] : Value) = .agg #[vl, .slice none 0 0] := rfl
  simp [i0, i1, i2, k7, e7, ac7, fil8, apart]
  have a3n : A.a < H3.n := cellsOf_lt c3 K3.ca
  refine (err_rew A V6 x y w L vl (.slice none 0 0) (.slice (some ⟨H7.n, 0, none⟩) 1 1) _ K8 (fun H g => b2.keep (kx (Xd.trans g8 g))) .snil (fun H g => .inr ⟨H7.n, 0, 1, [cI w], .ex, 1, rfl, ?_, by simp, by simp, fun i hi => ?_⟩) (fun a k i ha hk hi => by rw [l6]; exact free a k i ha hk hi)).mono' ?_
  · have := g.m _ _ (m_of_cells e8) (by omega) (by omega) (by omega) (by omega)
    unfold Heap.cellsOf; rw [this]
  · have : i = 0 := by simpa using hi
    subst this; rfl
  rintro _ H9 c9 _ ⟨rfl, V9, K9, g9, o9⟩
  rw [ht] at o9 ⊢
  simp
  refine (aread_nil 0 0 H9).mono' ?_
  rintro _ H10 c10 _ ⟨rfl, g10⟩
  have e10 := cellsOf_new H10 [.slice none 0 0, .slice none 0 0] .ex 1
  have c11 : (H10.push (.cells [.slice none 0 0, .slice none 0 0] .ex 1)).Closed := closed_push c10 (fun x hx => by simp at hx; subst hx; exact .snil)
  have g1011 : Gr H10 (H10.push (.cells [.slice none 0 0, .slice none 0 0] .ex 1)) := ⟨Nat.le_succ _, c11, keep_push c10 _⟩
  simp [e10, hp5, hs5, hm5]
  generalize H10.push (.cells [.slice none 0 0, .slice none 0 0] .ex 1) = H11 at *
  refine (load_nil 0 H11).mono' ?_
  rintro _ H12 c12 _ ⟨rfl, g12⟩
  have hz36 : z36.length = 36 := by rw [z36_eq]; simp [hc, ubs_len, zH, z32]
  have fz := cellsOf_new H12 z36 .ex 1
  have hpz : aput z36 0 z36 = z36 := by
    unfold aput
    rw [List.drop_eq_nil_of_le (by omega)]
    simp
  have hcz : hc zH = z36 := z36_eq.symm
  have hsz : (H12.push (.cells z36 .ex 1)).set H12.n (.cells z36 .ex 1) = H12.push (.cells z36 .ex 1) := set_push _ _ _
  have c13 : (H12.push (.cells z36 .ex 1)).Closed := closed_push c12 (by rw [z36_eq]; exact hc_bel)
  have g1213 : Gr H12 (H12.push (.cells z36 .ex 1)) := ⟨Nat.le_succ _, c13, keep_push c12 _⟩
  simp [fz, m_hv, hcz, hz36, hpz, hsz]
  generalize H12.push (.cells z36 .ex 1) = H13 at *
  refine (awrite_nil 0 0 _ H13).mono ?_
  rintro _ h9 ⟨rfl, e⟩
  rw [e]; clear e h9
  simp
  refine (wipe_nil 0 H13).mono ?_
  rintro _ h9 ⟨rfl, e⟩
  rw [e]; clear e h9
  have g13 : ArX A H3 H13 := Xd.trans (Xd.trans g8 g9) (Xd.of (g10.trans (g1011.trans (g12.trans g1213))))
  have K13 := K9.keep (g10.trans (g1011.trans (g12.trans g1213)))
  have f13 := fx g13
  have k13 := kxx g13
  have ho : V9.ops = 0 := by rw [o9 rfl, o6 rfl]; exact o4 rfl
  simp [aun]
  refine (ops_ok A.d A.x A.y A.z V9 H13 K13.dv).mono ?_
  rintro _ h9 ⟨rfl, e⟩
  rw [e, ho]; clear e h9
  simp
theorem areaErrors_F2 (d p s x y w : Int) (L : List (List UInt8)) (lv : Value) (h : Heap) (hl : BlS h lv L) (h1 : 0 ≤ x) (h2 : 3 ≤ x) : ACalls Tryz.prog 5 [gv d p s, .agg #[.int .i64 x, .int .i64 y, .int .i64 w], lv] h fun v _ => v = .bool true ∧ True := by
  refine acalls_of mix Tryz.func5 k5 n5 (by simp) fun hcl hb => ?_
  have hq : ∀ p, aeq .ptr (.pointer (some p)) (.pointer none) = some false := fun _ => rfl
  have hmx : mcells (.agg #[.int .i64 x, .int .i64 y, .int .i64 w]) = some [.int .i64 x, .int .i64 y, .int .i64 w] := rfl
  have c1 : (h.push (.cells [.int .i64 d, .int .i64 p, .int .i64 s] .ex 1)).Closed := closed_push hcl (fun x hx => by simp at hx; rcases hx with rfl | rfl | rfl <;> exact .int)
  have f1 := cellsOf_new h [.int .i64 d, .int .i64 p, .int .i64 s] .ex 1
  have n1 : (h.push (.cells [.int .i64 d, .int .i64 p, .int .i64 s] .ex 1)).n = h.n + 1 := rfl
  have g1 : Gr h (h.push (.cells [.int .i64 d, .int .i64 p, .int .i64 s] .ex 1)) := ⟨Nat.le_succ _, c1, keep_push hcl _⟩
  obtain ⟨al, cl, rfl⟩ := hl.form
  simp only [c5, s_seq, s_ops]
  simp [gvm, hmx]
  generalize h.push (.cells [.int .i64 d, .int .i64 p, .int .i64 s] .ex 1) = H1 at *
  have c2 : (H1.push (.cells [.int .i64 x, .int .i64 y, .int .i64 w] .ex 1)).Closed := closed_push c1 (fun x hx => by simp at hx; rcases hx with rfl | rfl | rfl <;> exact .int)
  have g2 : Gr H1 (H1.push (.cells [.int .i64 x, .int .i64 y, .int .i64 w] .ex 1)) := ⟨Nat.le_succ _, c2, keep_push c1 _⟩
  have f2 := cellsOf_keep g2.m f1
  have k2 := cellsOf_new H1 [.int .i64 x, .int .i64 y, .int .i64 w] .ex 1
  rw [n1] at k2
  have n2 : (H1.push (.cells [.int .i64 x, .int .i64 y, .int .i64 w] .ex 1)).n = h.n + 1 + 1 := by show H1.n + 1 = _; rw [n1]
  generalize H1.push (.cells [.int .i64 x, .int .i64 y, .int .i64 w] .ex 1) = H2 at *
  have b2 := (hl.keep g1.m).keep g2.m
  refine (arawake_ok H2).mono ?_
  rintro _ h9 ⟨rfl, e⟩
  rw [e]; clear e h9
  simp [aun, f2, apart, gvc, gva]
  refine (gRefRight_ok d p s H2).mono ?_
  rintro _ h9 ⟨rfl, e⟩
  rw [e]; clear e h9
  cases hr : right d p s
  · simp [aun]
  by_cases hbig : (20 : Int) < (L.length : Int)
  · simp [aun, hbig]
  obtain ⟨D, P, S, rfl, rfl, rfl⟩ := nats_of hr
  simp [aun, hbig, f2, apart, gvc, gva]
  refine (fresh_ok D P S hr H2).mono' ?_
  rintro _ H3 c3 _ ⟨A, rfl, K3, g3, ha, hd, hx, hy, hz, hD, hP, hS⟩
  have kx : ∀ {Hb : Heap}, ArX A H3 Hb → ∀ u ob, H2.m u = some ob → Hb.m u = some ob := fun g u ob e => by
    have := (c2 u ob e).1
    exact g.m u ob (g3.m u ob e) (by omega) (by omega) (by omega) (by omega)
  have fx : ∀ {Hb : Heap}, ArX A H3 Hb → Hb.cellsOf h.n = some ([.int .i64 D, .int .i64 P, .int .i64 S], .ex, 1) := fun g => cellsOf_keep (kx g) f2
  have kxx : ∀ {Hb : Heap}, ArX A H3 Hb → Hb.cellsOf (h.n + 1) = some ([.int .i64 x, .int .i64 y, .int .i64 w], .ex, 1) := fun g => cellsOf_keep (kx g) k2
  have f3 := fx (Xd.refl c3)
  have k3 := kxx (Xd.refl c3)
  have i0 : aidx (.int .i64 0) 3 = some 0 := rfl
  have i1 : aidx (.int .i64 1) 3 = some 1 := rfl
  have i2 : aidx (.int .i64 2) 3 = some 2 := rfl
  have free : ∀ a k i, a ≤ 2 → k < A.S → i < A.D + A.P → (dev0 (allS (D : Int) P S).toNat).lock[secN A.D A.P A.S a k i]! = false := fun a k i ha hk hi => secs_free (D := D) (P := P) (S := S) _ _ (by
    have := (secN_lt K3.rt ha hk hi).1
    rw [hD, hP, hS] at this
    rw [hD, hP, hS]
    omega)
  have ht : thereF A.S x y = false := by
    unfold thereF
    exact decide_eq_false (by rw [hS]; omega)
  simp [hq, i0, i1, i2, f3, k3, apart, h1, show ¬ x < 3 by omega]
  refine (err_read A _ x y H3 K3).mono' ?_
  rintro _ H4 c4 _ ⟨rfl, q, K4, g4, o4⟩
  rw [ht] at o4 ⊢
  have c5 : (H4.push (.cells [.slice none 0 0, .slice none 0 0] .ex 1)).Closed := closed_push c4 (fun x hx => by simp at hx; subst hx; exact .snil)
  have g45 : Gr H4 (H4.push (.cells [.slice none 0 0, .slice none 0 0] .ex 1)) := ⟨Nat.le_succ _, c5, keep_push c4 _⟩
  have e5 := cellsOf_new H4 [.slice none 0 0, .slice none 0 0] .ex 1
  have hp5 : aput [.slice none 0 0, .slice none 0 0] 0 [.slice none 0 0, .slice none 0 0] = ([.slice none 0 0, .slice none 0 0] : List Value) := rfl
  have hs5 : ∀ (H : Heap), (H.push (.cells [.slice none 0 0, .slice none 0 0] .ex 1)).set H.n (.cells [.slice none 0 0, .slice none 0 0] .ex 1) = H.push (.cells [.slice none 0 0, .slice none 0 0] .ex 1) := fun H => set_push _ _ _
  have hm5 : mcells (.agg #[.slice none 0 0, .slice none 0 0]) = some [.slice none 0 0, .slice none 0 0] := rfl
  have K5 := K4.keep g45
  have g5 := Xd.trans g4 (Xd.of g45)
  simp [e5, hp5, hs5, hm5]
  generalize H4.push (.cells [.slice none 0 0, .slice none 0 0] .ex 1) = H5 at *
  have k5 := kxx g5
  have f5 := fx g5
  simp [i0, i1, i2, f5, k5, apart]
  refine (err_write A _ x y L _ H5 K5 (b2.keep (kx g5)) free).mono' ?_
  rintro _ H6 c6 _ ⟨rfl, V6, K6, l6, g6, o6⟩
  rw [ht] at o6 ⊢
  have g6' := Xd.trans g5 g6
  have b6 := b2.keep (kx g6')
  obtain ⟨vl, hvl⟩ : ∃ vl : Value, (.slice al L.length cl : Value) = vl := ⟨_, rfl⟩
  have blw := (b6.below c6)
  rw [hvl] at b2 b6 blw
  have fil7 : afill [.slice none 0 0, .slice none 0 0] [(0, 1, .slice al L.length cl)] = some [vl, .slice none 0 0] := by subst hvl; rfl
  have c7 : (H6.push (.cells [vl, .slice none 0 0] .ex 1)).Closed := closed_push c6 (fun x hx => by
    simp at hx
    rcases hx with rfl | rfl
    · exact blw.mono (Nat.le_succ _)
    · exact .snil)
  have g67 : Gr H6 (H6.push (.cells [vl, .slice none 0 0] .ex 1)) := ⟨Nat.le_succ _, c7, keep_push c6 _⟩
  have e7 := cellsOf_new H6 [vl, .slice none 0 0] .ex 1
  have e70 := cellsOf_new H6 [.slice none 0 0, .slice none 0 0] .ex 1
  have hp7 : aput [.slice none 0 0, .slice none 0 0] 0 [vl, .slice none 0 0] = ([vl, .slice none 0 0] : List Value) := rfl
  have hs7 : (H6.push (.cells [.slice none 0 0, .slice none 0 0] .ex 1)).set H6.n (.cells [vl, .slice none 0 0] .ex 1) = H6.push (.cells [vl, .slice none 0 0] .ex 1) := set_push _ _ _
  have hm7 : mcells (.agg #[vl, .slice none 0 0]) = some [vl, .slice none 0 0] := rfl
  have K7 := K6.keep g67
  have g7 := Xd.trans g6' (Xd.of g67)
  have n7 : (H6.push (.cells [vl, .slice none 0 0] .ex 1)).n = H6.n + 1 := rfl
  simp [fil7, hm7, e70, hp7, hs7]
  generalize H6.push (.cells [vl, .slice none 0 0] .ex 1) = H7 at *
  have k7 := kxx g7
  have ac7 : acut [vl, .slice none 0 0] 0 2 = some [vl, .slice none 0 0] := rfl
  have fil8 : afill [.int .i64 0] [(0, 1, .int .i64 w)] = some [cI w] := rfl
  have c8 : (H7.push (.cells [cI w] .ex 1)).Closed := closed_push c7 (fun x hx => by simp at hx; subst hx; exact .int)
  have g78 : Gr H7 (H7.push (.cells [cI w] .ex 1)) := ⟨Nat.le_succ _, c8, keep_push c7 _⟩
  have e8 := cellsOf_new H7 [cI w] .ex 1
  have K8 := K7.keep g78
  have g8 := Xd.trans g7 (Xd.of g78)
  have hn37 : H3.n ≤ H7.n := g7.n
  obtain ⟨l31, l32, l33, l34, l35⟩ := K3.lo
  have hab : (.agg #[vl, .slice none 0 0] : Value) = .agg #[vl, .slice none 0 0] := rfl
  simp [i0, i1, i2, k7, e7, ac7, fil8, apart]
  have a3n : A.a < H3.n := cellsOf_lt c3 K3.ca
  refine (err_rew A V6 x y w L vl (.slice none 0 0) (.slice (some ⟨H7.n, 0, none⟩) 1 1) _ K8 (fun H g => b2.keep (kx (Xd.trans g8 g))) .snil (fun H g => .inr ⟨H7.n, 0, 1, [cI w], .ex, 1, rfl, ?_, by simp, by simp, fun i hi => ?_⟩) (fun a k i ha hk hi => by rw [l6]; exact free a k i ha hk hi)).mono' ?_
  · have := g.m _ _ (m_of_cells e8) (by omega) (by omega) (by omega) (by omega)
    unfold Heap.cellsOf; rw [this]
  · have : i = 0 := by simpa using hi
    subst this; rfl
  rintro _ H9 c9 _ ⟨rfl, V9, K9, g9, o9⟩
  rw [ht] at o9 ⊢
  simp
  refine (aread_nil 0 0 H9).mono' ?_
  rintro _ H10 c10 _ ⟨rfl, g10⟩
  have e10 := cellsOf_new H10 [.slice none 0 0, .slice none 0 0] .ex 1
  have c11 : (H10.push (.cells [.slice none 0 0, .slice none 0 0] .ex 1)).Closed := closed_push c10 (fun x hx => by simp at hx; subst hx; exact .snil)
  have g1011 : Gr H10 (H10.push (.cells [.slice none 0 0, .slice none 0 0] .ex 1)) := ⟨Nat.le_succ _, c11, keep_push c10 _⟩
  simp [e10, hp5, hs5, hm5]
  generalize H10.push (.cells [.slice none 0 0, .slice none 0 0] .ex 1) = H11 at *
  refine (load_nil 0 H11).mono' ?_
  rintro _ H12 c12 _ ⟨rfl, g12⟩
  have hz36 : z36.length = 36 := by rw [z36_eq]; simp [hc, ubs_len, zH, z32]
  have fz := cellsOf_new H12 z36 .ex 1
  have hpz : aput z36 0 z36 = z36 := by
    unfold aput
    rw [List.drop_eq_nil_of_le (by omega)]
    simp
  have hcz : hc zH = z36 := z36_eq.symm
  have hsz : (H12.push (.cells z36 .ex 1)).set H12.n (.cells z36 .ex 1) = H12.push (.cells z36 .ex 1) := set_push _ _ _
  have c13 : (H12.push (.cells z36 .ex 1)).Closed := closed_push c12 (by rw [z36_eq]; exact hc_bel)
  have g1213 : Gr H12 (H12.push (.cells z36 .ex 1)) := ⟨Nat.le_succ _, c13, keep_push c12 _⟩
  simp [fz, m_hv, hcz, hz36, hpz, hsz]
  generalize H12.push (.cells z36 .ex 1) = H13 at *
  refine (awrite_nil 0 0 _ H13).mono ?_
  rintro _ h9 ⟨rfl, e⟩
  rw [e]; clear e h9
  simp
  refine (wipe_nil 0 H13).mono ?_
  rintro _ h9 ⟨rfl, e⟩
  rw [e]; clear e h9
  have g13 : ArX A H3 H13 := Xd.trans (Xd.trans g8 g9) (Xd.of (g10.trans (g1011.trans (g12.trans g1213))))
  have K13 := K9.keep (g10.trans (g1011.trans (g12.trans g1213)))
  have f13 := fx g13
  have k13 := kxx g13
  have ho : V9.ops = 0 := by rw [o9 rfl, o6 rfl]; exact o4 rfl
  simp [aun]
  refine (ops_ok A.d A.x A.y A.z V9 H13 K13.dv).mono ?_
  rintro _ h9 ⟨rfl, e⟩
  rw [e, ho]; clear e h9
  simp
theorem areaErrors_F3 (d p s x y w : Int) (L : List (List UInt8)) (lv : Value) (h : Heap) (hl : BlS h lv L) (h1 : 0 ≤ x) (h2 : x < 3) (h3 : y < 0) : ACalls Tryz.prog 5 [gv d p s, .agg #[.int .i64 x, .int .i64 y, .int .i64 w], lv] h fun v _ => v = .bool true ∧ True := by
  refine acalls_of mix Tryz.func5 k5 n5 (by simp) fun hcl hb => ?_
  have hq : ∀ p, aeq .ptr (.pointer (some p)) (.pointer none) = some false := fun _ => rfl
  have hmx : mcells (.agg #[.int .i64 x, .int .i64 y, .int .i64 w]) = some [.int .i64 x, .int .i64 y, .int .i64 w] := rfl
  have c1 : (h.push (.cells [.int .i64 d, .int .i64 p, .int .i64 s] .ex 1)).Closed := closed_push hcl (fun x hx => by simp at hx; rcases hx with rfl | rfl | rfl <;> exact .int)
  have f1 := cellsOf_new h [.int .i64 d, .int .i64 p, .int .i64 s] .ex 1
  have n1 : (h.push (.cells [.int .i64 d, .int .i64 p, .int .i64 s] .ex 1)).n = h.n + 1 := rfl
  have g1 : Gr h (h.push (.cells [.int .i64 d, .int .i64 p, .int .i64 s] .ex 1)) := ⟨Nat.le_succ _, c1, keep_push hcl _⟩
  obtain ⟨al, cl, rfl⟩ := hl.form
  simp only [c5, s_seq, s_ops]
  simp [gvm, hmx]
  generalize h.push (.cells [.int .i64 d, .int .i64 p, .int .i64 s] .ex 1) = H1 at *
  have c2 : (H1.push (.cells [.int .i64 x, .int .i64 y, .int .i64 w] .ex 1)).Closed := closed_push c1 (fun x hx => by simp at hx; rcases hx with rfl | rfl | rfl <;> exact .int)
  have g2 : Gr H1 (H1.push (.cells [.int .i64 x, .int .i64 y, .int .i64 w] .ex 1)) := ⟨Nat.le_succ _, c2, keep_push c1 _⟩
  have f2 := cellsOf_keep g2.m f1
  have k2 := cellsOf_new H1 [.int .i64 x, .int .i64 y, .int .i64 w] .ex 1
  rw [n1] at k2
  have n2 : (H1.push (.cells [.int .i64 x, .int .i64 y, .int .i64 w] .ex 1)).n = h.n + 1 + 1 := by show H1.n + 1 = _; rw [n1]
  generalize H1.push (.cells [.int .i64 x, .int .i64 y, .int .i64 w] .ex 1) = H2 at *
  have b2 := (hl.keep g1.m).keep g2.m
  refine (arawake_ok H2).mono ?_
  rintro _ h9 ⟨rfl, e⟩
  rw [e]; clear e h9
  simp [aun, f2, apart, gvc, gva]
  refine (gRefRight_ok d p s H2).mono ?_
  rintro _ h9 ⟨rfl, e⟩
  rw [e]; clear e h9
  cases hr : right d p s
  · simp [aun]
  by_cases hbig : (20 : Int) < (L.length : Int)
  · simp [aun, hbig]
  obtain ⟨D, P, S, rfl, rfl, rfl⟩ := nats_of hr
  simp [aun, hbig, f2, apart, gvc, gva]
  refine (fresh_ok D P S hr H2).mono' ?_
  rintro _ H3 c3 _ ⟨A, rfl, K3, g3, ha, hd, hx, hy, hz, hD, hP, hS⟩
  have kx : ∀ {Hb : Heap}, ArX A H3 Hb → ∀ u ob, H2.m u = some ob → Hb.m u = some ob := fun g u ob e => by
    have := (c2 u ob e).1
    exact g.m u ob (g3.m u ob e) (by omega) (by omega) (by omega) (by omega)
  have fx : ∀ {Hb : Heap}, ArX A H3 Hb → Hb.cellsOf h.n = some ([.int .i64 D, .int .i64 P, .int .i64 S], .ex, 1) := fun g => cellsOf_keep (kx g) f2
  have kxx : ∀ {Hb : Heap}, ArX A H3 Hb → Hb.cellsOf (h.n + 1) = some ([.int .i64 x, .int .i64 y, .int .i64 w], .ex, 1) := fun g => cellsOf_keep (kx g) k2
  have f3 := fx (Xd.refl c3)
  have k3 := kxx (Xd.refl c3)
  have i0 : aidx (.int .i64 0) 3 = some 0 := rfl
  have i1 : aidx (.int .i64 1) 3 = some 1 := rfl
  have i2 : aidx (.int .i64 2) 3 = some 2 := rfl
  have free : ∀ a k i, a ≤ 2 → k < A.S → i < A.D + A.P → (dev0 (allS (D : Int) P S).toNat).lock[secN A.D A.P A.S a k i]! = false := fun a k i ha hk hi => secs_free (D := D) (P := P) (S := S) _ _ (by
    have := (secN_lt K3.rt ha hk hi).1
    rw [hD, hP, hS] at this
    rw [hD, hP, hS]
    omega)
  have ht : thereF A.S x y = false := by
    unfold thereF
    exact decide_eq_false (by rw [hS]; omega)
  simp [hq, i0, i1, i2, f3, k3, apart, h1, h2, show ¬ 0 ≤ y by omega]
  refine (err_read A _ x y H3 K3).mono' ?_
  rintro _ H4 c4 _ ⟨rfl, q, K4, g4, o4⟩
  rw [ht] at o4 ⊢
  have c5 : (H4.push (.cells [.slice none 0 0, .slice none 0 0] .ex 1)).Closed := closed_push c4 (fun x hx => by simp at hx; subst hx; exact .snil)
  have g45 : Gr H4 (H4.push (.cells [.slice none 0 0, .slice none 0 0] .ex 1)) := ⟨Nat.le_succ _, c5, keep_push c4 _⟩
  have e5 := cellsOf_new H4 [.slice none 0 0, .slice none 0 0] .ex 1
  have hp5 : aput [.slice none 0 0, .slice none 0 0] 0 [.slice none 0 0, .slice none 0 0] = ([.slice none 0 0, .slice none 0 0] : List Value) := rfl
  have hs5 : ∀ (H : Heap), (H.push (.cells [.slice none 0 0, .slice none 0 0] .ex 1)).set H.n (.cells [.slice none 0 0, .slice none 0 0] .ex 1) = H.push (.cells [.slice none 0 0, .slice none 0 0] .ex 1) := fun H => set_push _ _ _
  have hm5 : mcells (.agg #[.slice none 0 0, .slice none 0 0]) = some [.slice none 0 0, .slice none 0 0] := rfl
  have K5 := K4.keep g45
  have g5 := Xd.trans g4 (Xd.of g45)
  simp [e5, hp5, hs5, hm5]
  generalize H4.push (.cells [.slice none 0 0, .slice none 0 0] .ex 1) = H5 at *
  have k5 := kxx g5
  have f5 := fx g5
  simp [i0, i1, i2, f5, k5, apart]
  refine (err_write A _ x y L _ H5 K5 (b2.keep (kx g5)) free).mono' ?_
  rintro _ H6 c6 _ ⟨rfl, V6, K6, l6, g6, o6⟩
  rw [ht] at o6 ⊢
  have g6' := Xd.trans g5 g6
  have b6 := b2.keep (kx g6')
  obtain ⟨vl, hvl⟩ : ∃ vl : Value, (.slice al L.length cl : Value) = vl := ⟨_, rfl⟩
  have blw := (b6.below c6)
  rw [hvl] at b2 b6 blw
  have fil7 : afill [.slice none 0 0, .slice none 0 0] [(0, 1, .slice al L.length cl)] = some [vl, .slice none 0 0] := by subst hvl; rfl
  have c7 : (H6.push (.cells [vl, .slice none 0 0] .ex 1)).Closed := closed_push c6 (fun x hx => by
    simp at hx
    rcases hx with rfl | rfl
    · exact blw.mono (Nat.le_succ _)
    · exact .snil)
  have g67 : Gr H6 (H6.push (.cells [vl, .slice none 0 0] .ex 1)) := ⟨Nat.le_succ _, c7, keep_push c6 _⟩
  have e7 := cellsOf_new H6 [vl, .slice none 0 0] .ex 1
  have e70 := cellsOf_new H6 [.slice none 0 0, .slice none 0 0] .ex 1
  have hp7 : aput [.slice none 0 0, .slice none 0 0] 0 [vl, .slice none 0 0] = ([vl, .slice none 0 0] : List Value) := rfl
  have hs7 : (H6.push (.cells [.slice none 0 0, .slice none 0 0] .ex 1)).set H6.n (.cells [vl, .slice none 0 0] .ex 1) = H6.push (.cells [vl, .slice none 0 0] .ex 1) := set_push _ _ _
  have hm7 : mcells (.agg #[vl, .slice none 0 0]) = some [vl, .slice none 0 0] := rfl
  have K7 := K6.keep g67
  have g7 := Xd.trans g6' (Xd.of g67)
  have n7 : (H6.push (.cells [vl, .slice none 0 0] .ex 1)).n = H6.n + 1 := rfl
  simp [fil7, hm7, e70, hp7, hs7]
  generalize H6.push (.cells [vl, .slice none 0 0] .ex 1) = H7 at *
  have k7 := kxx g7
  have ac7 : acut [vl, .slice none 0 0] 0 2 = some [vl, .slice none 0 0] := rfl
  have fil8 : afill [.int .i64 0] [(0, 1, .int .i64 w)] = some [cI w] := rfl
  have c8 : (H7.push (.cells [cI w] .ex 1)).Closed := closed_push c7 (fun x hx => by simp at hx; subst hx; exact .int)
  have g78 : Gr H7 (H7.push (.cells [cI w] .ex 1)) := ⟨Nat.le_succ _, c8, keep_push c7 _⟩
  have e8 := cellsOf_new H7 [cI w] .ex 1
  have K8 := K7.keep g78
  have g8 := Xd.trans g7 (Xd.of g78)
  have hn37 : H3.n ≤ H7.n := g7.n
  obtain ⟨l31, l32, l33, l34, l35⟩ := K3.lo
  have hab : (.agg #[vl, .slice none 0 0] : Value) = .agg #[vl, .slice none 0 0] := rfl
  simp [i0, i1, i2, k7, e7, ac7, fil8, apart]
  have a3n : A.a < H3.n := cellsOf_lt c3 K3.ca
  refine (err_rew A V6 x y w L vl (.slice none 0 0) (.slice (some ⟨H7.n, 0, none⟩) 1 1) _ K8 (fun H g => b2.keep (kx (Xd.trans g8 g))) .snil (fun H g => .inr ⟨H7.n, 0, 1, [cI w], .ex, 1, rfl, ?_, by simp, by simp, fun i hi => ?_⟩) (fun a k i ha hk hi => by rw [l6]; exact free a k i ha hk hi)).mono' ?_
  · have := g.m _ _ (m_of_cells e8) (by omega) (by omega) (by omega) (by omega)
    unfold Heap.cellsOf; rw [this]
  · have : i = 0 := by simpa using hi
    subst this; rfl
  rintro _ H9 c9 _ ⟨rfl, V9, K9, g9, o9⟩
  rw [ht] at o9 ⊢
  simp
  refine (aread_nil 0 0 H9).mono' ?_
  rintro _ H10 c10 _ ⟨rfl, g10⟩
  have e10 := cellsOf_new H10 [.slice none 0 0, .slice none 0 0] .ex 1
  have c11 : (H10.push (.cells [.slice none 0 0, .slice none 0 0] .ex 1)).Closed := closed_push c10 (fun x hx => by simp at hx; subst hx; exact .snil)
  have g1011 : Gr H10 (H10.push (.cells [.slice none 0 0, .slice none 0 0] .ex 1)) := ⟨Nat.le_succ _, c11, keep_push c10 _⟩
  simp [e10, hp5, hs5, hm5]
  generalize H10.push (.cells [.slice none 0 0, .slice none 0 0] .ex 1) = H11 at *
  refine (load_nil 0 H11).mono' ?_
  rintro _ H12 c12 _ ⟨rfl, g12⟩
  have hz36 : z36.length = 36 := by rw [z36_eq]; simp [hc, ubs_len, zH, z32]
  have fz := cellsOf_new H12 z36 .ex 1
  have hpz : aput z36 0 z36 = z36 := by
    unfold aput
    rw [List.drop_eq_nil_of_le (by omega)]
    simp
  have hcz : hc zH = z36 := z36_eq.symm
  have hsz : (H12.push (.cells z36 .ex 1)).set H12.n (.cells z36 .ex 1) = H12.push (.cells z36 .ex 1) := set_push _ _ _
  have c13 : (H12.push (.cells z36 .ex 1)).Closed := closed_push c12 (by rw [z36_eq]; exact hc_bel)
  have g1213 : Gr H12 (H12.push (.cells z36 .ex 1)) := ⟨Nat.le_succ _, c13, keep_push c12 _⟩
  simp [fz, m_hv, hcz, hz36, hpz, hsz]
  generalize H12.push (.cells z36 .ex 1) = H13 at *
  refine (awrite_nil 0 0 _ H13).mono ?_
  rintro _ h9 ⟨rfl, e⟩
  rw [e]; clear e h9
  simp
  refine (wipe_nil 0 H13).mono ?_
  rintro _ h9 ⟨rfl, e⟩
  rw [e]; clear e h9
  have g13 : ArX A H3 H13 := Xd.trans (Xd.trans g8 g9) (Xd.of (g10.trans (g1011.trans (g12.trans g1213))))
  have K13 := K9.keep (g10.trans (g1011.trans (g12.trans g1213)))
  have f13 := fx g13
  have k13 := kxx g13
  have ho : V9.ops = 0 := by rw [o9 rfl, o6 rfl]; exact o4 rfl
  simp [aun]
  refine (ops_ok A.d A.x A.y A.z V9 H13 K13.dv).mono ?_
  rintro _ h9 ⟨rfl, e⟩
  rw [e, ho]; clear e h9
  simp
theorem areaErrors_F4 (d p s x y w : Int) (L : List (List UInt8)) (lv : Value) (h : Heap) (hl : BlS h lv L) (h1 : 0 ≤ x) (h2 : x < 3) (h3 : 0 ≤ y) (h4 : s ≤ y) : ACalls Tryz.prog 5 [gv d p s, .agg #[.int .i64 x, .int .i64 y, .int .i64 w], lv] h fun v _ => v = .bool true ∧ True := by
  refine acalls_of mix Tryz.func5 k5 n5 (by simp) fun hcl hb => ?_
  have hq : ∀ p, aeq .ptr (.pointer (some p)) (.pointer none) = some false := fun _ => rfl
  have hmx : mcells (.agg #[.int .i64 x, .int .i64 y, .int .i64 w]) = some [.int .i64 x, .int .i64 y, .int .i64 w] := rfl
  have c1 : (h.push (.cells [.int .i64 d, .int .i64 p, .int .i64 s] .ex 1)).Closed := closed_push hcl (fun x hx => by simp at hx; rcases hx with rfl | rfl | rfl <;> exact .int)
  have f1 := cellsOf_new h [.int .i64 d, .int .i64 p, .int .i64 s] .ex 1
  have n1 : (h.push (.cells [.int .i64 d, .int .i64 p, .int .i64 s] .ex 1)).n = h.n + 1 := rfl
  have g1 : Gr h (h.push (.cells [.int .i64 d, .int .i64 p, .int .i64 s] .ex 1)) := ⟨Nat.le_succ _, c1, keep_push hcl _⟩
  obtain ⟨al, cl, rfl⟩ := hl.form
  simp only [c5, s_seq, s_ops]
  simp [gvm, hmx]
  generalize h.push (.cells [.int .i64 d, .int .i64 p, .int .i64 s] .ex 1) = H1 at *
  have c2 : (H1.push (.cells [.int .i64 x, .int .i64 y, .int .i64 w] .ex 1)).Closed := closed_push c1 (fun x hx => by simp at hx; rcases hx with rfl | rfl | rfl <;> exact .int)
  have g2 : Gr H1 (H1.push (.cells [.int .i64 x, .int .i64 y, .int .i64 w] .ex 1)) := ⟨Nat.le_succ _, c2, keep_push c1 _⟩
  have f2 := cellsOf_keep g2.m f1
  have k2 := cellsOf_new H1 [.int .i64 x, .int .i64 y, .int .i64 w] .ex 1
  rw [n1] at k2
  have n2 : (H1.push (.cells [.int .i64 x, .int .i64 y, .int .i64 w] .ex 1)).n = h.n + 1 + 1 := by show H1.n + 1 = _; rw [n1]
  generalize H1.push (.cells [.int .i64 x, .int .i64 y, .int .i64 w] .ex 1) = H2 at *
  have b2 := (hl.keep g1.m).keep g2.m
  refine (arawake_ok H2).mono ?_
  rintro _ h9 ⟨rfl, e⟩
  rw [e]; clear e h9
  simp [aun, f2, apart, gvc, gva]
  refine (gRefRight_ok d p s H2).mono ?_
  rintro _ h9 ⟨rfl, e⟩
  rw [e]; clear e h9
  cases hr : right d p s
  · simp [aun]
  by_cases hbig : (20 : Int) < (L.length : Int)
  · simp [aun, hbig]
  obtain ⟨D, P, S, rfl, rfl, rfl⟩ := nats_of hr
  simp [aun, hbig, f2, apart, gvc, gva]
  refine (fresh_ok D P S hr H2).mono' ?_
  rintro _ H3 c3 _ ⟨A, rfl, K3, g3, ha, hd, hx, hy, hz, hD, hP, hS⟩
  have kx : ∀ {Hb : Heap}, ArX A H3 Hb → ∀ u ob, H2.m u = some ob → Hb.m u = some ob := fun g u ob e => by
    have := (c2 u ob e).1
    exact g.m u ob (g3.m u ob e) (by omega) (by omega) (by omega) (by omega)
  have fx : ∀ {Hb : Heap}, ArX A H3 Hb → Hb.cellsOf h.n = some ([.int .i64 D, .int .i64 P, .int .i64 S], .ex, 1) := fun g => cellsOf_keep (kx g) f2
  have kxx : ∀ {Hb : Heap}, ArX A H3 Hb → Hb.cellsOf (h.n + 1) = some ([.int .i64 x, .int .i64 y, .int .i64 w], .ex, 1) := fun g => cellsOf_keep (kx g) k2
  have f3 := fx (Xd.refl c3)
  have k3 := kxx (Xd.refl c3)
  have i0 : aidx (.int .i64 0) 3 = some 0 := rfl
  have i1 : aidx (.int .i64 1) 3 = some 1 := rfl
  have i2 : aidx (.int .i64 2) 3 = some 2 := rfl
  have free : ∀ a k i, a ≤ 2 → k < A.S → i < A.D + A.P → (dev0 (allS (D : Int) P S).toNat).lock[secN A.D A.P A.S a k i]! = false := fun a k i ha hk hi => secs_free (D := D) (P := P) (S := S) _ _ (by
    have := (secN_lt K3.rt ha hk hi).1
    rw [hD, hP, hS] at this
    rw [hD, hP, hS]
    omega)
  have ht : thereF A.S x y = false := by
    unfold thereF
    exact decide_eq_false (by rw [hS]; omega)
  simp [hq, i0, i1, i2, f3, k3, apart, h1, h2, h3, show ¬ y < S by omega]
  refine (err_read A _ x y H3 K3).mono' ?_
  rintro _ H4 c4 _ ⟨rfl, q, K4, g4, o4⟩
  rw [ht] at o4 ⊢
  have c5 : (H4.push (.cells [.slice none 0 0, .slice none 0 0] .ex 1)).Closed := closed_push c4 (fun x hx => by simp at hx; subst hx; exact .snil)
  have g45 : Gr H4 (H4.push (.cells [.slice none 0 0, .slice none 0 0] .ex 1)) := ⟨Nat.le_succ _, c5, keep_push c4 _⟩
  have e5 := cellsOf_new H4 [.slice none 0 0, .slice none 0 0] .ex 1
  have hp5 : aput [.slice none 0 0, .slice none 0 0] 0 [.slice none 0 0, .slice none 0 0] = ([.slice none 0 0, .slice none 0 0] : List Value) := rfl
  have hs5 : ∀ (H : Heap), (H.push (.cells [.slice none 0 0, .slice none 0 0] .ex 1)).set H.n (.cells [.slice none 0 0, .slice none 0 0] .ex 1) = H.push (.cells [.slice none 0 0, .slice none 0 0] .ex 1) := fun H => set_push _ _ _
  have hm5 : mcells (.agg #[.slice none 0 0, .slice none 0 0]) = some [.slice none 0 0, .slice none 0 0] := rfl
  have K5 := K4.keep g45
  have g5 := Xd.trans g4 (Xd.of g45)
  simp [e5, hp5, hs5, hm5]
  generalize H4.push (.cells [.slice none 0 0, .slice none 0 0] .ex 1) = H5 at *
  have k5 := kxx g5
  have f5 := fx g5
  simp [i0, i1, i2, f5, k5, apart]
  refine (err_write A _ x y L _ H5 K5 (b2.keep (kx g5)) free).mono' ?_
  rintro _ H6 c6 _ ⟨rfl, V6, K6, l6, g6, o6⟩
  rw [ht] at o6 ⊢
  have g6' := Xd.trans g5 g6
  have b6 := b2.keep (kx g6')
  obtain ⟨vl, hvl⟩ : ∃ vl : Value, (.slice al L.length cl : Value) = vl := ⟨_, rfl⟩
  have blw := (b6.below c6)
  rw [hvl] at b2 b6 blw
  have fil7 : afill [.slice none 0 0, .slice none 0 0] [(0, 1, .slice al L.length cl)] = some [vl, .slice none 0 0] := by subst hvl; rfl
  have c7 : (H6.push (.cells [vl, .slice none 0 0] .ex 1)).Closed := closed_push c6 (fun x hx => by
    simp at hx
    rcases hx with rfl | rfl
    · exact blw.mono (Nat.le_succ _)
    · exact .snil)
  have g67 : Gr H6 (H6.push (.cells [vl, .slice none 0 0] .ex 1)) := ⟨Nat.le_succ _, c7, keep_push c6 _⟩
  have e7 := cellsOf_new H6 [vl, .slice none 0 0] .ex 1
  have e70 := cellsOf_new H6 [.slice none 0 0, .slice none 0 0] .ex 1
  have hp7 : aput [.slice none 0 0, .slice none 0 0] 0 [vl, .slice none 0 0] = ([vl, .slice none 0 0] : List Value) := rfl
  have hs7 : (H6.push (.cells [.slice none 0 0, .slice none 0 0] .ex 1)).set H6.n (.cells [vl, .slice none 0 0] .ex 1) = H6.push (.cells [vl, .slice none 0 0] .ex 1) := set_push _ _ _
  have hm7 : mcells (.agg #[vl, .slice none 0 0]) = some [vl, .slice none 0 0] := rfl
  have K7 := K6.keep g67
  have g7 := Xd.trans g6' (Xd.of g67)
  have n7 : (H6.push (.cells [vl, .slice none 0 0] .ex 1)).n = H6.n + 1 := rfl
  simp [fil7, hm7, e70, hp7, hs7]
  generalize H6.push (.cells [vl, .slice none 0 0] .ex 1) = H7 at *
  have k7 := kxx g7
  have ac7 : acut [vl, .slice none 0 0] 0 2 = some [vl, .slice none 0 0] := rfl
  have fil8 : afill [.int .i64 0] [(0, 1, .int .i64 w)] = some [cI w] := rfl
  have c8 : (H7.push (.cells [cI w] .ex 1)).Closed := closed_push c7 (fun x hx => by simp at hx; subst hx; exact .int)
  have g78 : Gr H7 (H7.push (.cells [cI w] .ex 1)) := ⟨Nat.le_succ _, c8, keep_push c7 _⟩
  have e8 := cellsOf_new H7 [cI w] .ex 1
  have K8 := K7.keep g78
  have g8 := Xd.trans g7 (Xd.of g78)
  have hn37 : H3.n ≤ H7.n := g7.n
  obtain ⟨l31, l32, l33, l34, l35⟩ := K3.lo
  have hab : (.agg #[vl, .slice none 0 0] : Value) = .agg #[vl, .slice none 0 0] := rfl
  simp [i0, i1, i2, k7, e7, ac7, fil8, apart]
  have a3n : A.a < H3.n := cellsOf_lt c3 K3.ca
  refine (err_rew A V6 x y w L vl (.slice none 0 0) (.slice (some ⟨H7.n, 0, none⟩) 1 1) _ K8 (fun H g => b2.keep (kx (Xd.trans g8 g))) .snil (fun H g => .inr ⟨H7.n, 0, 1, [cI w], .ex, 1, rfl, ?_, by simp, by simp, fun i hi => ?_⟩) (fun a k i ha hk hi => by rw [l6]; exact free a k i ha hk hi)).mono' ?_
  · have := g.m _ _ (m_of_cells e8) (by omega) (by omega) (by omega) (by omega)
    unfold Heap.cellsOf; rw [this]
  · have : i = 0 := by simpa using hi
    subst this; rfl
  rintro _ H9 c9 _ ⟨rfl, V9, K9, g9, o9⟩
  rw [ht] at o9 ⊢
  simp
  refine (aread_nil 0 0 H9).mono' ?_
  rintro _ H10 c10 _ ⟨rfl, g10⟩
  have e10 := cellsOf_new H10 [.slice none 0 0, .slice none 0 0] .ex 1
  have c11 : (H10.push (.cells [.slice none 0 0, .slice none 0 0] .ex 1)).Closed := closed_push c10 (fun x hx => by simp at hx; subst hx; exact .snil)
  have g1011 : Gr H10 (H10.push (.cells [.slice none 0 0, .slice none 0 0] .ex 1)) := ⟨Nat.le_succ _, c11, keep_push c10 _⟩
  simp [e10, hp5, hs5, hm5]
  generalize H10.push (.cells [.slice none 0 0, .slice none 0 0] .ex 1) = H11 at *
  refine (load_nil 0 H11).mono' ?_
  rintro _ H12 c12 _ ⟨rfl, g12⟩
  have hz36 : z36.length = 36 := by rw [z36_eq]; simp [hc, ubs_len, zH, z32]
  have fz := cellsOf_new H12 z36 .ex 1
  have hpz : aput z36 0 z36 = z36 := by
    unfold aput
    rw [List.drop_eq_nil_of_le (by omega)]
    simp
  have hcz : hc zH = z36 := z36_eq.symm
  have hsz : (H12.push (.cells z36 .ex 1)).set H12.n (.cells z36 .ex 1) = H12.push (.cells z36 .ex 1) := set_push _ _ _
  have c13 : (H12.push (.cells z36 .ex 1)).Closed := closed_push c12 (by rw [z36_eq]; exact hc_bel)
  have g1213 : Gr H12 (H12.push (.cells z36 .ex 1)) := ⟨Nat.le_succ _, c13, keep_push c12 _⟩
  simp [fz, m_hv, hcz, hz36, hpz, hsz]
  generalize H12.push (.cells z36 .ex 1) = H13 at *
  refine (awrite_nil 0 0 _ H13).mono ?_
  rintro _ h9 ⟨rfl, e⟩
  rw [e]; clear e h9
  simp
  refine (wipe_nil 0 H13).mono ?_
  rintro _ h9 ⟨rfl, e⟩
  rw [e]; clear e h9
  have g13 : ArX A H3 H13 := Xd.trans (Xd.trans g8 g9) (Xd.of (g10.trans (g1011.trans (g12.trans g1213))))
  have K13 := K9.keep (g10.trans (g1011.trans (g12.trans g1213)))
  have f13 := fx g13
  have k13 := kxx g13
  have ho : V9.ops = 0 := by rw [o9 rfl, o6 rfl]; exact o4 rfl
  simp [aun]
  refine (ops_ok A.d A.x A.y A.z V9 H13 K13.dv).mono ?_
  rintro _ h9 ⟨rfl, e⟩
  rw [e, ho]; clear e h9
  simp
theorem areaErrors_law (d p s x y w : Int) (L : List (List UInt8)) (lv : Value) (h : Heap) (hl : BlS h lv L) : ACalls Tryz.prog 5 [gv d p s, .agg #[.int .i64 x, .int .i64 y, .int .i64 w], lv] h fun v _ => v = .bool true ∧ True := by
  by_cases h1 : 0 ≤ x
  · by_cases h2 : x < 3
    · by_cases h3 : 0 ≤ y
      · by_cases h4 : y < s
        · exact areaErrors_T d p s x y w L lv h hl h1 h2 h3 h4
        · exact areaErrors_F4 d p s x y w L lv h hl h1 h2 h3 (by omega)
      · exact areaErrors_F3 d p s x y w L lv h hl h1 h2 (by omega)
    · exact areaErrors_F2 d p s x y w L lv h hl h1 (by omega)
  · exact areaErrors_F1 d p s x y w L lv h hl (by omega)

end Go.Proofs.YtikpgnkegnedoaaGreat.arbh

