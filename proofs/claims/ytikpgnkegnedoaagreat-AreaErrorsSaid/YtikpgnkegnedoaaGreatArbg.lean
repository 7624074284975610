/-
  Contracts.
-/
import Derived.Test.YtikpgnkegnedoaaGreatArbf
import Derived.Test.YtikpgnkegnedoaaGreatArbe
import Derived.Test.YtikpgnkegnedoaaGreatArbd
import Derived.Test.YtikpgnkegnedoaaGreatArbc
import Derived.Test.YtikpgnkegnedoaaGreatArbb
import Derived.Test.YtikpgnkegnedoaaGreatArba
import Derived.Test.YtikpgnkegnedoaaGreatSha
import Derived.Test.YtikpgnkegnedoaaGreatLin1
import Derived.Test.YtikpgnkegnedoaaGreatVers
import Derived.Test.YtikpgnkegnedoaaGreatStr
import Derived.Test.YtikpgnkegnedoaaGreatAbEnter
import Derived.Test.YtikpgnkegnedoaaGreatAbStep
import Derived.Test.YtikpgnkegnedoaaGreatProg
import Derived.IntWalk
import Derived.KernelRfl
set_option linter.unusedSimpArgs false
set_option linter.unusedVariables false
set_option linter.unusedSectionVars false
namespace Go.Proofs.YtikpgnkegnedoaaGreat.arbg
open Go Go.Ab Go.Proofs Go.RowKit Go.Proofs.YtikpgnkegnedoaaGreat.str Go.Proofs.YtikpgnkegnedoaaGreat.vers Go.Proofs.YtikpgnkegnedoaaGreat.lin1 Go.Proofs.YtikpgnkegnedoaaGreat.sha Go.Proofs.YtikpgnkegnedoaaGreat.arba Go.Proofs.YtikpgnkegnedoaaGreat.arbb Go.Proofs.YtikpgnkegnedoaaGreat.arbc Go.Proofs.YtikpgnkegnedoaaGreat.arbd Go.Proofs.YtikpgnkegnedoaaGreat.arbe Go.Proofs.YtikpgnkegnedoaaGreat.arbf
variable [Inhabited TabBox]
variable [Nonempty GF]
variable [Nonempty GE]
set_option maxRecDepth 100000
attribute [local simp] s_ops s_seq s_cond s_cond_t s_cond_f s_block s_exit s_ret s_skip s_then_n s_then_n' s_then_e s_then_e' s_then_r s_then_r' s_block_n s_block_r s_block_e s_post_r s_post_n s_res0 s_res1 s_res2 s_res3 s_res4 s_nil s_cons s_guard s_guard_tt s_guard_ff s_guard_tf s_guard_ft s_guard_u s_call s_kL s_put s_put0 s_set s_tmp s_const s_func s_glob s_init s_mkF s_mkF0 s_mv s_bin s_pick s_op aop oK_some oK_none bK_some bK_none b_add b_sub b_mul b_quo b_rem b_and b_or b_xor b_andNot b_shl b_shr b_eql b_neq b_lss b_leq b_gtr b_geq b_sadd b_seql b_sneq b_slss b_sleq b_sgtr b_sgeq s_draw s_drawT s_tK s_tT s_tF s_tB s_tR s_stage s_stage0 s_kW s_kR s_rc0 s_rc s_rcg rK_some rK_none rG_b rG_u s_callv s_callv_f s_nextM s_postR_r s_postR_n s_resA0 s_resAt s_resAc s_resC s_tup0 s_tup1 s_tup2 s_tup3
def c20_0 : AC := .seq (.ops [⟨some 20,none,.bin .lss (.tmp 19) (.tmp 18)⟩]) (.seq (.cond (.tmp 20) .skip (.exit 0)) (.seq (.block 1 (.seq (.ops [⟨some 21,none,.mv (.tmp 19)⟩,⟨some 6,none,.mv (.tmp 21)⟩]) (.seq (.draw [([⟨some 22,none,.mv (.tmp 0)⟩,⟨some 23,none,.nilck (.tmp 22)⟩,⟨some 24,none,.fAddr 1 (.tmp 23)⟩,⟨some 25,none,.load none (.tmp 24)⟩,⟨some 26,none,.mv (.tmp 1)⟩,⟨some 27,none,.mv (.tmp 0)⟩,⟨some 28,none,.nilck (.tmp 27)⟩,⟨some 29,none,.fAddr 2 (.tmp 28)⟩,⟨some 30,none,.load (some 3) (.tmp 29)⟩,⟨some 33,none,.mv (.tmp 6)⟩],[⟨some 31,none,.call 29 [.tmp 30]⟩],[⟨some 25,none,.load none (.tmp 24)⟩]),([⟨some 32,none,.bin .mul (.tmp 26) (.tmp 31)⟩,⟨some 34,none,.bin .add (.tmp 32) (.tmp 33)⟩],[⟨some 35,none,.call 45 [.tmp 25,.tmp 34]⟩],[]),([⟨some 7,none,.mv (.tmp 35)⟩],[],[])]) (.seq (.ops [⟨some 36,none,.mv (.tmp 7)⟩,⟨some 37,none,.bin .neq (.tmp 36) (.const (.int .i64 0))⟩]) (.cond (.tmp 37) (.seq (.ops [⟨some 38,none,.mv (.tmp 7)⟩,⟨some 4,none,.mv (.tmp 38)⟩]) .ret) .skip))))) (.ops [⟨some 39,none,.bin .add (.tmp 19) (.const (.int .i64 1))⟩,⟨some 19,none,.mv (.tmp 39)⟩])))
def c20 : AC := .seq (.ops [⟨some 4,none,.mv (.const (.int .i64 0))⟩]) (.seq (.seq (.ops [⟨some 8,none,.mv (.tmp 0)⟩,⟨some 9,none,.mv (.tmp 1)⟩,⟨some 10,none,.call 43 [.tmp 8,.tmp 9,.const (.int .i64 0)]⟩,⟨some 5,none,.mv (.tmp 10)⟩]) (.seq (.ops [⟨some 11,none,.mv (.tmp 5)⟩,⟨some 12,none,.bin .neq (.tmp 11) (.const (.int .i64 0))⟩]) (.cond (.tmp 12) (.seq (.ops [⟨some 13,none,.mv (.tmp 5)⟩,⟨some 4,none,.mv (.tmp 13)⟩]) .ret) .skip))) (.seq (.seq (.ops [⟨some 14,none,.mv (.tmp 0)⟩,⟨some 15,none,.nilck (.tmp 14)⟩,⟨some 16,none,.fAddr 2 (.tmp 15)⟩,⟨some 17,none,.load (some 3) (.tmp 16)⟩,⟨some 18,none,.call 29 [.tmp 17]⟩,⟨some 19,none,.mv (.const (.int .i64 0))⟩]) (.block 0 (.loop c20_0))) (.seq (.ops [⟨some 4,none,.mv (.const (.int .i64 0))⟩]) .ret)))
theorem k20 : compF Tryz.prog Tryz.f20 = some (c20, [4]) := by kernel_rfl
theorem n20 : Tryz.f20.ntmps = 40 := by kernel_rfl
def c4_0 : AC := .seq (.seq (.ops [⟨some 62,none,.mv (.tmp 12)⟩,⟨some 63,none,.fAddr 0 (.tmp 3)⟩,⟨some 64,none,.load none (.tmp 63)⟩,⟨some 65,none,.bin .lss (.tmp 62) (.tmp 64)⟩]) (.cond (.tmp 65) .skip (.exit 0))) (.seq (.block 1 (.ops [⟨some 68,none,.mv (.tmp 11)⟩,⟨some 69,none,.load (some 60) (.tmp 5)⟩,⟨some 70,none,.call 19 [.tmp 69]⟩,⟨some 71,none,.call 18 [.tmp 70]⟩,⟨some 72,none,.buildS 1 (zl .u8 60) [(0,60,.tmp 71)]⟩,⟨some 73,none,.app 60 60 40 (.tmp 68) (.tmp 72)⟩,⟨some 11,none,.mv (.tmp 73)⟩])) (.ops [⟨some 66,none,.mv (.tmp 12)⟩,⟨some 67,none,.bin .add (.tmp 66) (.const (.int .i64 1))⟩,⟨some 12,none,.mv (.tmp 67)⟩]))
def c4 : AC := .seq (.ops [⟨some 3,none,.box (.tmp 0)⟩,⟨some 5,none,.box (.tmp 2)⟩,⟨some 6,none,.mv (.const (.bool false))⟩]) (.seq (.seq (.ops [⟨some 17,none,.call 8 []⟩,⟨some 18,none,.un .not (.tmp 17)⟩]) (.cond (.tmp 18) (.seq (.ops [⟨some 6,none,.mv (.const (.bool false))⟩]) .ret) .skip)) (.seq (.seq (.ops [⟨some 19,none,.load (some 3) (.tmp 3)⟩,⟨some 20,none,.call 11 [.tmp 19]⟩,⟨some 21,none,.un .not (.tmp 20)⟩,⟨some 22,none,.mv (.tmp 21)⟩,⟨some 23,some (22,false),.mv (.tmp 1)⟩,⟨some 24,some (22,false),.lenS true (.tmp 23)⟩,⟨some 25,some (22,false),.load (some 3) (.tmp 3)⟩,⟨some 26,some (22,false),.call 12 [.tmp 25]⟩,⟨some 27,some (22,false),.bin .gtr (.tmp 24) (.tmp 26)⟩,⟨some 28,none,.pick (.tmp 22) (.const (.bool true)) (.tmp 27)⟩,⟨some 29,none,.mv (.tmp 28)⟩,⟨some 30,some (29,false),.mv (.tmp 1)⟩,⟨some 31,some (29,false),.lenS true (.tmp 30)⟩,⟨some 32,some (29,false),.bin .gtr (.tmp 31) (.const (.int .i64 1000))⟩,⟨some 33,none,.pick (.tmp 29) (.const (.bool true)) (.tmp 32)⟩]) (.cond (.tmp 33) (.seq (.ops [⟨some 6,none,.mv (.const (.bool true))⟩]) .ret) .skip)) (.seq (.ops [⟨some 35,none,.load (some 3) (.tmp 3)⟩,⟨some 36,none,.call 13 [.tmp 35]⟩,⟨some 34,none,.mv (.tmp 36)⟩,⟨some 37,none,.extr (.tmp 34) 0⟩,⟨some 38,none,.extr (.tmp 34) 1⟩,⟨some 7,none,.mv (.tmp 37)⟩,⟨some 8,none,.mv (.tmp 38)⟩]) (.seq (.ops [⟨some 40,none,.load (some 3) (.tmp 3)⟩,⟨some 41,none,.call 14 [.tmp 40]⟩,⟨some 39,none,.mv (.tmp 41)⟩,⟨some 42,none,.extr (.tmp 39) 0⟩,⟨some 43,none,.extr (.tmp 39) 1⟩,⟨some 9,none,.mv (.tmp 42)⟩,⟨some 10,none,.mv (.tmp 43)⟩]) (.seq (.seq (.ops [⟨some 44,none,.mv (.tmp 7)⟩,⟨some 45,none,.eqv false .ptr (.tmp 44) (.const (.pointer none))⟩,⟨some 46,none,.mv (.tmp 45)⟩,⟨some 47,some (46,false),.mv (.tmp 7)⟩,⟨some 48,some (46,false),.build [.int .i64 0,.int .i64 0,.int .i64 0] []⟩,⟨some 49,some (46,false),.mv (.tmp 1)⟩,⟨some 50,some (46,false),.call 16 [.tmp 48,.tmp 49]⟩,⟨some 51,some (46,false),.mv (.tmp 1)⟩,⟨some 52,some (46,false),.call 15 [.tmp 47,.const (.int .i64 0),.tmp 50,.tmp 51]⟩,⟨some 53,some (46,false),.bin .neq (.tmp 52) (.const (.int .i64 0))⟩,⟨some 54,none,.pick (.tmp 46) (.const (.bool true)) (.tmp 53)⟩,⟨some 55,none,.mv (.tmp 54)⟩,⟨some 56,some (55,false),.mv (.tmp 8)⟩,⟨some 57,some (55,false),.mv (.tmp 9)⟩,⟨some 58,some (55,false),.mv (.tmp 10)⟩,⟨some 59,some (55,false),.call 17 [.tmp 56,.tmp 57,.tmp 58]⟩,⟨some 60,some (55,false),.bin .neq (.tmp 59) (.const (.int .i64 0))⟩,⟨some 61,none,.pick (.tmp 55) (.const (.bool true)) (.tmp 60)⟩]) (.cond (.tmp 61) (.seq (.ops [⟨some 6,none,.mv (.const (.bool false))⟩]) .ret) .skip)) (.seq (.ops [⟨some 11,none,.mv (.const (.slice none 0 0))⟩]) (.seq (.seq (.ops [⟨some 12,none,.mv (.const (.int .i64 0))⟩]) (.block 0 (.loop c4_0))) (.seq (.seq (.ops [⟨some 74,none,.mv (.tmp 7)⟩,⟨some 75,none,.build [.int .i64 0,.int .i64 0,.int .i64 0] []⟩,⟨some 76,none,.call 16 [.tmp 75,.const (.string ⟨⟨[]⟩⟩)]⟩,⟨some 77,none,.call 15 [.tmp 74,.const (.int .i64 0),.tmp 76,.const (.string ⟨⟨[]⟩⟩)]⟩,⟨some 78,none,.bin .neq (.tmp 77) (.const (.int .i64 4))⟩,⟨some 79,none,.mv (.tmp 78)⟩,⟨some 80,some (79,false),.mv (.tmp 7)⟩,⟨some 81,some (79,false),.call 20 [.tmp 80,.const (.int .i64 0)]⟩,⟨some 82,some (79,false),.bin .neq (.tmp 81) (.const (.int .i64 4))⟩,⟨some 83,none,.pick (.tmp 79) (.const (.bool true)) (.tmp 82)⟩,⟨some 84,none,.mv (.tmp 83)⟩,⟨some 85,some (84,false),.mv (.tmp 7)⟩,⟨some 86,some (84,false),.mv (.tmp 11)⟩,⟨some 87,some (84,false),.call 21 [.tmp 85,.const (.int .i64 0),.const (.int .i64 0),.tmp 86]⟩,⟨some 88,some (84,false),.bin .neq (.tmp 87) (.const (.int .i64 4))⟩,⟨some 89,none,.pick (.tmp 84) (.const (.bool true)) (.tmp 88)⟩,⟨some 90,none,.mv (.tmp 89)⟩,⟨some 91,some (90,false),.mv (.tmp 7)⟩,⟨some 92,some (90,false),.mv (.tmp 11)⟩,⟨some 93,some (90,false),.call 21 [.tmp 91,.const (.int .i64 1),.const (.int .i64 0),.tmp 92]⟩,⟨some 94,some (90,false),.bin .neq (.tmp 93) (.const (.int .i64 0))⟩,⟨some 95,none,.pick (.tmp 90) (.const (.bool true)) (.tmp 94)⟩]) (.cond (.tmp 95) (.seq (.ops [⟨some 6,none,.mv (.const (.bool false))⟩]) .ret) .skip)) (.seq (.ops [⟨some 97,none,.mv (.tmp 7)⟩,⟨some 98,none,.call 22 [.tmp 97,.const (.int .i64 0)]⟩,⟨some 96,none,.mv (.tmp 98)⟩,⟨some 99,none,.extr (.tmp 96) 0⟩,⟨some 100,none,.extr (.tmp 96) 1⟩,⟨some 101,none,.extr (.tmp 96) 2⟩,⟨some 102,none,.extr (.tmp 96) 3⟩,⟨some 13,none,.alloc z36⟩,⟨none,none,.store 36 (.tmp 13) (.tmp 99)⟩,⟨some 14,none,.mv (.tmp 100)⟩,⟨some 15,none,.mv (.tmp 101)⟩,⟨some 16,none,.mv (.tmp 102)⟩]) (.seq (.ops [⟨some 103,none,.mv (.tmp 14)⟩,⟨some 104,none,.mv (.tmp 1)⟩,⟨some 105,none,.bin .eql (.tmp 103) (.tmp 104)⟩,⟨some 106,none,.mv (.tmp 105)⟩,⟨some 107,some (106,true),.mv (.tmp 15)⟩,⟨some 108,some (106,true),.bin .eql (.tmp 107) (.const (.int .i64 0))⟩,⟨some 109,none,.pick (.tmp 106) (.tmp 108) (.const (.bool false))⟩,⟨some 110,none,.mv (.tmp 109)⟩,⟨some 111,some (110,true),.mv (.tmp 16)⟩,⟨some 112,some (110,true),.bin .eql (.tmp 111) (.const (.int .i64 0))⟩,⟨some 113,none,.pick (.tmp 110) (.tmp 112) (.const (.bool false))⟩,⟨some 6,none,.mv (.tmp 113)⟩]) .ret))))))))))
theorem k4 : compF Tryz.prog Tryz.f4 = some (c4, [6]) := by kernel_rfl
theorem n4 : Tryz.f4.ntmps = 114 := by kernel_rfl
theorem nats_of {d p s : Int} (hr : right d p s = true) : ∃ D P S : Nat, d = D ∧ p = P ∧ s = S := by
  obtain ⟨⟨hd1, hd8⟩, ⟨hp2, hp6⟩, hn1, hn8⟩ := right_prop.1 hr
  exact ⟨d.toNat, p.toNat, s.toNat, by omega, by omega, by omega⟩
theorem blk_of : ∀ {xs : List Int}, (∀ y ∈ xs, (Lit.int .u8 y).wf = true) → ∃ l : List UInt8, xs.map (Value.int .u8) = ubs l ∧ l.length = xs.length
  | [], _ => ⟨[], rfl, rfl⟩
  | x :: xs, h => by
    obtain ⟨l, h1, h2⟩ := blk_of (xs := xs) fun y hy => h y (by simp [hy])
    obtain ⟨c, hc⟩ := u8_of (h x (by simp))
    exact ⟨c :: l, by rw [List.map_cons, h1, hc]; rfl, by simp [h2]⟩
theorem bls_of {h : Heap} {v : Value} {L : List (List Int)} (s : SlN .u8 60 h v L) (wf : ∀ x ∈ L, ∀ y ∈ x, (Lit.int .u8 y).wf = true) : ∃ L', BlS h v L' ∧ L'.length = L.length := by
  have key : ∀ L : List (List Int), (∀ x ∈ L, ∀ y ∈ x, (Lit.int .u8 y).wf = true) → ∃ L' : List (List UInt8), L'.length = L.length ∧ ∀ i (hi : i < L'.length) (hi2 : i < L.length), ubs L'[i] = L[i].map (Value.int .u8) ∧ L'[i].length = L[i].length := by
    intro L
    induction L with
    | nil => intro _; exact ⟨[], rfl, fun i hi => by simp at hi⟩
    | cons x r ih =>
      intro hx
      obtain ⟨L', h1, h2⟩ := ih fun y hy => hx y (by simp [hy])
      obtain ⟨l, h3, h4⟩ := blk_of (xs := x) (hx x (by simp))
      refine ⟨l :: L', by simp [h1], fun i hi hi2 => ?_⟩
      cases i with
      | zero => exact ⟨h3.symm, h4⟩
      | succ i => exact h2 i (by simpa using hi) (by simpa using hi2)
  obtain ⟨L', k1, k2⟩ := key L wf
  rcases s with ⟨c, rfl, rfl⟩ | ⟨b, o, cap, c, m, e, rfl, h1, h2⟩
  · exact ⟨[], ⟨(fun x hx => by cases hx), .inl ⟨c, rfl, rfl⟩⟩, rfl⟩
  · refine ⟨L', ⟨fun x hx => ?_, .inr ⟨b, o, cap, c, m, e, by rw [k1], h1, fun i hi => ?_⟩⟩, k1⟩
    · obtain ⟨i, hi, rfl⟩ := List.mem_iff_getElem.1 hx
      rw [(k2 i hi (by omega)).2]; exact (h2 i (by omega)).2
    · rw [(k2 i hi (by omega)).1]; exact (h2 i (by omega)).1

end Go.Proofs.YtikpgnkegnedoaaGreat.arbg

