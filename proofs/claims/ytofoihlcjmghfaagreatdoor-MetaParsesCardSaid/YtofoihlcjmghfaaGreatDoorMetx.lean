/-
  Contracts.
-/
import Derived.Test.YtofoihlcjmghfaaGreatDoorMets
import Derived.Test.YtofoihlcjmghfaaGreatDoorFlds
import Derived.Test.YtofoihlcjmghfaaGreatDoorLin1
import Derived.Test.YtofoihlcjmghfaaGreatDoorVers
import Derived.Test.YtofoihlcjmghfaaGreatDoorStr
import Derived.Test.YtofoihlcjmghfaaGreatDoorAbEnter
import Derived.Test.YtofoihlcjmghfaaGreatDoorAbStep
import Derived.Test.YtofoihlcjmghfaaGreatDoorProg
import Derived.IntWalk
import Derived.KernelRfl
set_option linter.unusedSimpArgs false
set_option linter.unusedVariables false
set_option linter.unusedSectionVars false
namespace Go.Proofs.YtofoihlcjmghfaaGreatDoor.metx
open Go Go.Ab Go.Proofs Go.RowKit Go.Proofs.YtofoihlcjmghfaaGreatDoor.str Go.Proofs.YtofoihlcjmghfaaGreatDoor.vers Go.Proofs.YtofoihlcjmghfaaGreatDoor.lin1 Go.Proofs.YtofoihlcjmghfaaGreatDoor.flds Go.Proofs.YtofoihlcjmghfaaGreatDoor.mets
variable [Inhabited TabBox]
variable [Nonempty GF]
variable [Nonempty GE]
set_option maxRecDepth 100000
attribute [local simp] s_ops s_seq s_cond s_cond_t s_cond_f s_block s_exit s_ret s_skip s_then_n s_then_n' s_then_e s_then_e' s_then_r s_then_r' s_block_n s_block_r s_block_e s_post_r s_post_n s_res0 s_res1 s_res2 s_res3 s_res4 s_nil s_cons s_guard s_guard_tt s_guard_ff s_guard_tf s_guard_ft s_guard_u s_call s_kL s_put s_put0 s_set s_tmp s_const s_func s_glob s_init s_mkF s_mkF0 s_mv s_bin s_pick s_op aop oK_some oK_none bK_some bK_none b_add b_sub b_mul b_quo b_rem b_and b_or b_xor b_andNot b_shl b_shr b_eql b_neq b_lss b_leq b_gtr b_geq b_sadd b_seql b_sneq b_slss b_sleq b_sgtr b_sgeq s_draw s_drawT s_tK s_tT s_tF s_tB s_tR s_stage s_stage0 s_kW s_kR s_rc0 s_rc s_rcg rK_some rK_none rG_b rG_u s_callv s_callv_f s_nextM s_postR_r s_postR_n s_resA0 s_resAt s_resAc s_resC s_tup0 s_tup1 s_tup2 s_tup3
def c42 : AC := .seq (.ops [⟨some 0,none,.mv (.const (.slice none 0 0))⟩]) (.seq (.ops [⟨some 1,none,.call 83 [.const (.string ⟨⟨[103,111,108,100,101,110,32,97,32,98]⟩⟩)]⟩,⟨some 0,none,.mv (.tmp 1)⟩]) .ret)
theorem k42 : compF Tryz.prog Tryz.f42 = some (c42, [0]) := by kernel_rfl
theorem n42 : Tryz.f42.ntmps = 2 := by kernel_rfl
def c46 : AC := .seq (.ops [⟨some 0,none,.mv (.const (.slice none 0 0))⟩]) (.seq (.ops [⟨some 1,none,.call 83 [.const (.string ⟨⟨[101,109,112,116,121,32,119,114,105,116,105,110,103,32,115,116,97,103,101,100,32,116,114,105,97,108,32,99,111,110,102,105,114,109,101,100,32,98,97,100]⟩⟩)]⟩,⟨some 0,none,.mv (.tmp 1)⟩]) .ret)
theorem k46 : compF Tryz.prog Tryz.f46 = some (c46, [0]) := by kernel_rfl
theorem n46 : Tryz.f46.ntmps = 2 := by kernel_rfl
def c18 : AC := .seq (.ops [⟨some 2,none,.mv (.const (.string ⟨⟨[]⟩⟩))⟩]) (.seq (.ops [⟨some 4,none,.call 46 []⟩,⟨some 3,none,.mv (.tmp 4)⟩]) (.seq (.seq (.ops [⟨some 5,none,.mv (.tmp 0)⟩,⟨some 6,none,.bin .lss (.tmp 5) (.const (.int .i64 0))⟩,⟨some 7,none,.mv (.tmp 6)⟩,⟨some 8,some (7,false),.mv (.tmp 0)⟩,⟨some 9,some (7,false),.mv (.tmp 3)⟩,⟨some 10,some (7,false),.lenS false (.tmp 9)⟩,⟨some 11,some (7,false),.bin .geq (.tmp 8) (.tmp 10)⟩,⟨some 12,none,.pick (.tmp 7) (.const (.bool true)) (.tmp 11)⟩]) (.cond (.tmp 12) (.seq (.ops [⟨some 2,none,.mv (.const (.string ⟨⟨[]⟩⟩))⟩]) .ret) .skip)) (.seq (.ops [⟨some 13,none,.mv (.tmp 3)⟩,⟨some 14,none,.mv (.tmp 0)⟩,⟨some 15,none,.iAddrS 1 (.tmp 13) (.tmp 14)⟩,⟨some 16,none,.load none (.tmp 15)⟩,⟨some 2,none,.mv (.tmp 16)⟩]) .ret)))
theorem k18 : compF Tryz.prog Tryz.f18 = some (c18, [2]) := by kernel_rfl
theorem n18 : Tryz.f18.ntmps = 17 := by kernel_rfl
def c43 : AC := .seq (.ops [⟨some 4,none,.mv (.const (.string ⟨⟨[]⟩⟩))⟩]) (.seq (.seq (.ops [⟨some 5,none,.mv (.tmp 1)⟩,⟨some 6,none,.bin .eql (.tmp 5) (.const (.int .i64 0))⟩]) (.cond (.tmp 6) (.seq (.ops [⟨some 4,none,.mv (.const (.string ⟨⟨[]⟩⟩))⟩]) .ret) .skip)) (.seq (.ops [⟨some 7,none,.mv (.tmp 0)⟩,⟨some 8,none,.mv (.tmp 1)⟩,⟨some 9,none,.call 58 [.tmp 8]⟩,⟨some 10,none,.bin .add (.tmp 7) (.tmp 9)⟩,⟨some 4,none,.mv (.tmp 10)⟩]) .ret))
theorem k43 : compF Tryz.prog Tryz.f43 = some (c43, [4]) := by kernel_rfl
theorem n43 : Tryz.f43.ntmps = 11 := by kernel_rfl
def c90_0 : AC := .seq (.seq (.ops [⟨some 12,none,.mv (.tmp 0)⟩,⟨some 13,none,.bin .geq (.tmp 12) (.const (.int .i64 10))⟩]) (.cond (.tmp 13) .skip (.exit 0))) (.block 1 (.seq (.ops [⟨some 14,none,.mv (.tmp 0)⟩,⟨some 15,none,.bin .quo (.tmp 14) (.const (.int .i64 10))⟩,⟨some 0,none,.mv (.tmp 15)⟩]) (.ops [⟨some 16,none,.mv (.tmp 3)⟩,⟨some 17,none,.mv (.tmp 0)⟩,⟨some 18,none,.bin .rem (.tmp 17) (.const (.int .i64 10))⟩,⟨some 19,none,.mv (.tmp 0)⟩,⟨some 20,none,.bin .rem (.tmp 19) (.const (.int .i64 10))⟩,⟨some 21,none,.bin .add (.tmp 20) (.const (.int .i64 1))⟩,⟨some 22,none,.slS (.tmp 16) (some (.tmp 18)) (some (.tmp 21))⟩,⟨some 23,none,.mv (.tmp 4)⟩,⟨some 24,none,.bin .add (.tmp 22) (.tmp 23)⟩,⟨some 4,none,.mv (.tmp 24)⟩])))
def c90 : AC := .seq (.ops [⟨some 2,none,.mv (.const (.string ⟨⟨[]⟩⟩))⟩]) (.seq (.ops [⟨some 3,none,.mv (.const (.string ⟨⟨[48,49,50,51,52,53,54,55,56,57]⟩⟩))⟩]) (.seq (.ops [⟨some 5,none,.mv (.tmp 3)⟩,⟨some 6,none,.mv (.tmp 0)⟩,⟨some 7,none,.bin .rem (.tmp 6) (.const (.int .i64 10))⟩,⟨some 8,none,.mv (.tmp 0)⟩,⟨some 9,none,.bin .rem (.tmp 8) (.const (.int .i64 10))⟩,⟨some 10,none,.bin .add (.tmp 9) (.const (.int .i64 1))⟩,⟨some 11,none,.slS (.tmp 5) (some (.tmp 7)) (some (.tmp 10))⟩,⟨some 4,none,.mv (.tmp 11)⟩]) (.seq (.block 0 (.loop c90_0)) (.seq (.ops [⟨some 25,none,.mv (.tmp 4)⟩,⟨some 2,none,.mv (.tmp 25)⟩]) .ret))))
theorem k90 : compF Tryz.prog Tryz.f90 = some (c90, [2]) := by kernel_rfl
theorem n90 : Tryz.f90.ntmps = 26 := by kernel_rfl
def c53 : AC := .seq (.ops [⟨some 4,none,.mv (.const (.string ⟨⟨[]⟩⟩))⟩]) (.seq (.seq (.ops [⟨some 5,none,.mv (.tmp 1)⟩,⟨some 6,none,.bin .eql (.tmp 5) (.const (.int .i64 0))⟩]) (.cond (.tmp 6) (.seq (.ops [⟨some 4,none,.mv (.const (.string ⟨⟨[]⟩⟩))⟩]) .ret) .skip)) (.seq (.ops [⟨some 7,none,.mv (.tmp 0)⟩,⟨some 8,none,.mv (.tmp 1)⟩,⟨some 9,none,.call 90 [.tmp 8]⟩,⟨some 10,none,.bin .add (.tmp 7) (.tmp 9)⟩,⟨some 4,none,.mv (.tmp 10)⟩]) .ret))
theorem k53 : compF Tryz.prog Tryz.f53 = some (c53, [4]) := by kernel_rfl
theorem n53 : Tryz.f53.ntmps = 11 := by kernel_rfl
variable [Nonempty GA]
def gnL : List (List UInt8) := [[103, 111, 108, 100, 101, 110], [97], [98]]
def stL : List (List UInt8) := [[101, 109, 112, 116, 121], [119, 114, 105, 116, 105, 110, 103], [115, 116, 97, 103, 101, 100], [116, 114, 105, 97, 108], [99, 111, 110, 102, 105, 114, 109, 101, 100], [98, 97, 100]]
theorem gnL_low : ∀ w ∈ gnL, lowL w := by
  intro w hw
  simp only [gnL, List.mem_cons, List.not_mem_nil, or_false] at hw
  rcases hw with rfl | rfl | rfl
  · exact ⟨by simp, by unfold isLow; decide⟩
  · exact ⟨by simp, by unfold isLow; decide⟩
  · exact ⟨by simp, by unfold isLow; decide⟩
theorem stL_low : ∀ w ∈ stL, lowL w := by
  intro w hw
  simp only [stL, List.mem_cons, List.not_mem_nil, or_false] at hw
  rcases hw with rfl | rfl | rfl | rfl | rfl | rfl
  · exact ⟨by simp, by unfold isLow; decide⟩
  · exact ⟨by simp, by unfold isLow; decide⟩
  · exact ⟨by simp, by unfold isLow; decide⟩
  · exact ⟨by simp, by unfold isLow; decide⟩
  · exact ⟨by simp, by unfold isLow; decide⟩
  · exact ⟨by simp, by unfold isLow; decide⟩
theorem slots_ok (h : Heap) : ACalls Tryz.prog 42 [] h fun v h' => v = .slice (some ⟨h.n, 0, none⟩) 3 3 ∧ h' = h.push (.cells (gnL.map sv) .ex 1) := by
  refine acalls_of mix Tryz.func42 k42 n42 (by simp) fun hcl hb => ?_
  simp [c42, bs_lit]
  refine (fields_ok gnL (by simp [gnL]) gnL_low (by decide) h).mono ?_
  rintro _ h9 ⟨rfl, rfl⟩
  simp
  rfl
theorem states_ok (h : Heap) : ACalls Tryz.prog 46 [] h fun v h' => v = .slice (some ⟨h.n, 0, none⟩) 6 6 ∧ h' = h.push (.cells (stL.map sv) .ex 1) := by
  refine acalls_of mix Tryz.func46 k46 n46 (by simp) fun hcl hb => ?_
  simp [c46, bs_lit]
  refine (fields_ok stL (by simp [stL]) stL_low (by decide) h).mono ?_
  rintro _ h9 ⟨rfl, rfl⟩
  simp
  rfl
def stW (n : Int) : List UInt8 := if 0 ≤ n ∧ n < 6 then stL.getD n.toNat [] else []
theorem stateM_ok (n : Int) (h : Heap) : ACalls Tryz.prog 18 [.int .i64 n] h fun v h' => v = sv (stW n) ∧ h' = h := by
  refine ACalls.same .string (acalls_of mix Tryz.func18 k18 n18 (by simp) fun hcl hb => ?_)
  have hsv : ∀ l, sv l = .string (bs l) := fun _ => rfl
  have e1 := (Heap.Ext.refl h).push hcl (.cells (stL.map sv) .ex 1)
  have f1 := cellsOf_new h (stL.map sv) .ex 1
  simp [c18, bs_lit]
  refine (states_ok h).mono ?_
  rintro _ h9 ⟨rfl, rfl⟩
  by_cases h0 : n < 0
  · have : stW n = [] := if_neg (by omega)
    simp [h0, this, hsv, aun]
    exact e1
  by_cases h6 : 6 ≤ n
  · have : stW n = [] := if_neg (by omega)
    simp [h0, h6, this, hsv, aun]
    exact e1
  obtain ⟨k, rfl⟩ : ∃ k : Nat, n = (k : Int) := ⟨n.toNat, by omega⟩
  have hk : k < 6 := by omega
  have hx : aidx (.int .i64 (k : Int)) 6 = some k := aidx_of hk
  have hg : (stL.map sv)[k]? = some (sv (stW (k : Int))) := by
    rw [List.getElem?_map, List.getElem?_eq_getElem (show k < stL.length from hk)]
    unfold stW
    rw [if_pos (by omega)]
    simp [List.getD_eq_getElem?_getD, List.getElem?_eq_getElem (show k < stL.length from hk)]
  simp [h0, h6, hx, f1, apart, hg]
  exact e1
theorem itoaB_nat (n : Nat) : itoaB (n : Int) = dec n := by unfold itoaB; rw [if_neg (by omega)]; rfl
def pt (mk : List UInt8) (n : Int) : List UInt8 := if n = 0 then [] else mk ++ itoaB n
theorem partM_ok (mk : List UInt8) (n : Int) (hm : mk.length ≤ 1000) (hlo : 0 ≤ n) (hhi : n ≤ 281474976710655) (h : Heap) : ACalls Tryz.prog 43 [.string (bs mk), .int .i64 n] h fun v h' => v = sv (pt mk n) ∧ h' = h := by
  refine acalls_of mix Tryz.func43 k43 n43 (by simp) fun hcl hb => ?_
  have hsv : ∀ l, sv l = .string (bs l) := fun _ => rfl
  by_cases h0 : n = 0
  · have : pt mk n = [] := if_pos h0
    simp [c43, bs_lit, h0, hsv, pt]
  · have hp : pt mk n = mk ++ itoaB n := if_neg h0
    have hl := itoaB_len n (by omega) (by omega)
    have hs : mk.length + (itoaB n).length ≤ 9223372036854775807 := by omega
    rw [hp]
    simp [c43, bs_lit, h0]
    refine (itoa_ok n (by omega) (by omega) h).mono ?_
    rintro _ h9 ⟨rfl, e⟩
    rw [e]; clear e h9
    simp [hsv, bs_size, bs_append, hs]
theorem digits17_ok (N : Nat) (hN : N < 1000000000000000000) (h : Heap) : ACalls Tryz.prog 90 [.int .i64 N] h fun v h' => v = .string (bs (dec N)) ∧ h' = h := by
  refine ACalls.same .string (acalls_of mix Tryz.func90 k90 n90 (by simp) fun hcl hb => ?_)
  have hcd : (⟨⟨[48, 49, 50, 51, 52, 53, 54, 55, 56, 57]⟩⟩ : ByteArray) = bs d10 := rfl
  have hs : (bs d10).size = 10 := rfl
  have q2 : (N : Int).tmod 10 = ((N % 10 : Nat) : Int) := tmodN N 10
  have hlt : N % 10 < 10 := by omega
  have w1' : IntKind.i64.wrap (((N % 10 : Nat) : Int) + 1) = ((N % 10 + 1 : Nat) : Int) := w1 _ (by omega)
  have b1 : abounds 10 10 (some (.int .i64 ((N % 10 : Nat) : Int))) (some (.int .i64 ((N % 10 + 1 : Nat) : Int))) none = some (N % 10, N % 10 + 1, 10) := abounds_lohi (by omega) (by omega)
  simp only [c90, s_seq, s_ops]
  simp [hcd, hs, q2, w1', b1, bs_extract, cut10 _ hlt, -Int.natCast_add, -Int.natCast_emod]
  refine awp_loop_of (α := DS) (fun z => z.u = N / 10 ^ (z.k - 1) ∧ 1 ≤ z.k ∧ z.k ≤ 18 ∧ (z.k = 1 ∨ 0 < z.u))
    (fun z => [(0, .int .i64 z.u), (3, .string (bs d10)), (4, .string (bs (digN z.k N)))]) (fun _ => h) (fun z => z.u) ⟨1, N⟩
    ⟨by simp, Nat.le_refl _, by show 1 ≤ 18; omega, .inl rfl⟩ (Heap.Sub.refl hcl) (by simp; exact ⟨.int, .string, by rw [digN_one], .string⟩) ?_
  rintro ⟨k, u⟩ ⟨hu, hk1, hk18, hku⟩
  dsimp only at hu hk1 hk18 hku ⊢
  by_cases h10 : 10 ≤ u
  · have h10' : (10 : Int) ≤ (u : Int) := by omega
    have huN : u ≤ N := by rw [hu]; exact Nat.div_le_self _ _
    have p1 : (u : Int).tdiv 10 = ((u / 10 : Nat) : Int) := tdivN u 10
    have p2 : IntKind.i64.wrap ((u / 10 : Nat) : Int) = ((u / 10 : Nat) : Int) := i64w _ (by omega)
    have p3 : ((u / 10 : Nat) : Int).tmod 10 = ((u / 10 % 10 : Nat) : Int) := tmodN _ 10
    have hl2 : u / 10 % 10 < 10 := by omega
    have p4 : IntKind.i64.wrap (((u / 10 % 10 : Nat) : Int) + 1) = ((u / 10 % 10 + 1 : Nat) : Int) := w1 _ (by omega)
    have p5 : abounds 10 10 (some (.int .i64 ((u / 10 % 10 : Nat) : Int))) (some (.int .i64 ((u / 10 % 10 + 1 : Nat) : Int))) none = some (u / 10 % 10, u / 10 % 10 + 1, 10) := abounds_lohi (by omega) (by omega)
    have hkk : N / 10 ^ k = u / 10 := by
      obtain ⟨j, rfl⟩ : ∃ j, k = j + 1 := ⟨k - 1, by omega⟩
      rw [hu, Nat.pow_succ, Nat.add_sub_cancel, Nat.div_div_eq_div_mul]
    have hdn : digN (k + 1) N = [dgt (u / 10 % 10)] ++ digN k N := by
      rw [Nat.add_comm, digN_add 1 k N, hkk, digN_one]
    have hk17 : k ≤ 17 := by
      rcases Nat.lt_or_ge 17 k with g | g
      · have : k = 18 := by omega
        subst this
        have : N / 10 ^ 18 = 0 := Nat.div_eq_of_lt hN
        omega
      · exact g
    have s1 : (bs [dgt (u / 10 % 10)]).size + (bs (digN k N)).size ≤ 9223372036854775807 := by rw [bs_size, bs_size, digN_len]; simp; omega
    have hu10 : u / 10 < u := by omega
    have hu0 : 0 < u / 10 := by omega
    generalize hv : u / 10 = v at *
    simp [c90_0, h10', p1, p2, p3, p4, hs, p5, bs_extract, cut10 _ hl2, s1, bs_append, -Int.natCast_add, -Int.natCast_emod, -Int.natCast_ediv]
    exact ⟨⟨k + 1, v⟩, hu10, ⟨by show v = N / 10 ^ (k + 1 - 1); rw [Nat.add_sub_cancel, hkk], by show 1 ≤ k + 1; omega, by show k + 1 ≤ 18; omega, .inr hu0⟩, Heap.Sub.refl hcl, ⟨rfl, .int⟩, .string, ⟨by show bs _ = bs (digN (k + 1) N); rw [hdn]; rfl, .string⟩⟩
  · have h10' : ¬ (10 : Int) ≤ (u : Int) := by omega
    have hnd : ndig N = k := by
      obtain ⟨j, rfl⟩ : ∃ j, k = j + 1 := ⟨k - 1, by omega⟩
      rw [Nat.add_sub_cancel] at hu
      have hp : 0 < 10 ^ j := Nat.pow_pos (by omega)
      refine ndig_eq (by omega) ?_ ?_
      · rcases hku with e | e
        · exact .inr (by omega)
        · left
          rw [hu] at e
          have := (Nat.le_div_iff_mul_le hp).1 e
          omega
      · rw [Nat.pow_succ, Nat.mul_comm]
        exact (Nat.div_lt_iff_lt_mul hp).1 (by omega)
    simp [c90_0, h10']
    refine ⟨?_, Heap.Ext.refl h⟩
    unfold dec
    rw [hnd]
theorem part17_ok (mk : List UInt8) (n : Nat) (hm : mk.length ≤ 1000) (hn : n ≤ 281474976710655) (h : Heap) : ACalls Tryz.prog 53 [.string (bs mk), .int .i64 n] h fun v h' => v = sv (pt mk n) ∧ h' = h := by
  refine acalls_of mix Tryz.func53 k53 n53 (by simp) fun hcl hb => ?_
  have hsv : ∀ l, sv l = .string (bs l) := fun _ => rfl
  by_cases h0 : n = 0
  · subst h0
    simp [c53, bs_lit, hsv, pt]
  · have h0' : ¬ (n : Int) = 0 := by omega
    have hp : pt mk (n : Int) = mk ++ itoaB n := if_neg h0'
    have hl := itoaB_len n (by omega) (by omega)
    have hd : itoaB (n : Int) = dec n := itoaB_nat n
    rw [hd] at hl
    have hs : mk.length + (dec n).length ≤ 9223372036854775807 := by omega
    rw [hp, hd]
    simp [c53, bs_lit, h0, h0']
    refine (digits17_ok n (by omega) h).mono ?_
    rintro _ h9 ⟨rfl, e⟩
    rw [e]; clear e h9
    simp [hsv, bs_size, bs_append, hs]

def c51 : AC := .seq (.ops [⟨some 4,none,.mv (.const (.int .i64 0))⟩]) (.seq (.seq (.ops [⟨some 6,none,.mv (.tmp 0)⟩,⟨some 7,none,.lenS false (.tmp 6)⟩,⟨some 8,none,.mv (.const (.int .i64 0))⟩]) (.block 0 (.loop (.seq (.ops [⟨some 9,none,.bin .lss (.tmp 8) (.tmp 7)⟩]) (.seq (.cond (.tmp 9) .skip (.exit 0)) (.seq (.block 1 (.seq (.ops [⟨some 10,none,.mv (.tmp 8)⟩,⟨some 5,none,.mv (.tmp 10)⟩]) (.seq (.ops [⟨some 11,none,.mv (.tmp 1)⟩,⟨some 12,none,.mv (.tmp 0)⟩,⟨some 13,none,.mv (.tmp 5)⟩,⟨some 14,none,.iAddrS 1 (.tmp 12) (.tmp 13)⟩,⟨some 15,none,.load none (.tmp 14)⟩,⟨some 16,none,.bin .eql (.tmp 11) (.tmp 15)⟩]) (.cond (.tmp 16) (.seq (.ops [⟨some 17,none,.mv (.tmp 5)⟩,⟨some 4,none,.mv (.tmp 17)⟩]) .ret) .skip)))) (.ops [⟨some 18,none,.bin .add (.tmp 8) (.const (.int .i64 1))⟩,⟨some 8,none,.mv (.tmp 18)⟩]))))))) (.seq (.ops [⟨some 4,none,.mv (.const (.int .i64 (-1)))⟩]) .ret))
theorem k51 : compF Tryz.prog Tryz.f51 = some (c51, [4]) := by kernel_rfl
theorem n51 : Tryz.f51.ntmps = 19 := by kernel_rfl
def c89 : AC := .seq (.ops [⟨some 4,none,.mv (.const (.string ⟨⟨[]⟩⟩))⟩,⟨some 5,none,.mv (.const (.int .i64 0))⟩]) (.seq (.ops [⟨some 12,none,.mv (.tmp 0)⟩,⟨some 13,none,.mv (.tmp 1)⟩,⟨some 14,none,.call 49 [.tmp 12,.tmp 13]⟩,⟨some 11,none,.mv (.tmp 14)⟩,⟨some 15,none,.extr (.tmp 11) 0⟩,⟨some 16,none,.extr (.tmp 11) 1⟩,⟨some 17,none,.extr (.tmp 11) 2⟩,⟨some 6,none,.mv (.tmp 15)⟩,⟨some 7,none,.mv (.tmp 16)⟩,⟨some 8,none,.mv (.tmp 17)⟩]) (.seq (.ops [⟨some 19,none,.mv (.tmp 7)⟩,⟨some 20,none,.call 50 [.tmp 19]⟩,⟨some 18,none,.mv (.tmp 20)⟩,⟨some 21,none,.extr (.tmp 18) 0⟩,⟨some 22,none,.extr (.tmp 18) 1⟩,⟨some 9,none,.mv (.tmp 21)⟩,⟨some 10,none,.mv (.tmp 22)⟩]) (.seq (.ops [⟨some 23,none,.mv (.tmp 6)⟩,⟨some 24,none,.mv (.tmp 9)⟩,⟨some 4,none,.mv (.tmp 23)⟩,⟨some 5,none,.mv (.tmp 24)⟩]) .ret)))
theorem k89 : compF Tryz.prog Tryz.f89 = some (c89, [4, 5]) := by kernel_rfl
theorem n89 : Tryz.f89.ntmps = 25 := by kernel_rfl
def c52 : AC := .seq (.ops [⟨some 2,none,.alloc [.int .i64 0,.int .i64 0,.int .i64 0]⟩]) (.seq (.ops [⟨some 3,none,.alloc [.int .i64 0,.int .i64 0,.int .i64 0]⟩]) (.seq (.ops [⟨some 5,none,.mv (.tmp 0)⟩,⟨some 6,none,.call 89 [.tmp 5,.const (.string ⟨⟨[64]⟩⟩)]⟩,⟨some 4,none,.mv (.tmp 6)⟩,⟨some 7,none,.extr (.tmp 4) 0⟩,⟨some 8,none,.extr (.tmp 4) 1⟩,⟨some 0,none,.mv (.tmp 7)⟩,⟨some 9,none,.fAddr 2 (.tmp 3)⟩,⟨none,none,.store 1 (.tmp 9) (.tmp 8)⟩]) (.seq (.ops [⟨some 11,none,.mv (.tmp 0)⟩,⟨some 12,none,.call 89 [.tmp 11,.const (.string ⟨⟨[58]⟩⟩)]⟩,⟨some 10,none,.mv (.tmp 12)⟩,⟨some 13,none,.extr (.tmp 10) 0⟩,⟨some 14,none,.extr (.tmp 10) 1⟩,⟨some 0,none,.mv (.tmp 13)⟩,⟨some 15,none,.fAddr 1 (.tmp 3)⟩,⟨none,none,.store 1 (.tmp 15) (.tmp 14)⟩]) (.seq (.ops [⟨some 16,none,.call 46 []⟩,⟨some 17,none,.mv (.tmp 0)⟩,⟨some 18,none,.call 51 [.tmp 16,.tmp 17]⟩,⟨some 19,none,.fAddr 0 (.tmp 3)⟩,⟨none,none,.store 1 (.tmp 19) (.tmp 18)⟩]) (.seq (.ops [⟨some 20,none,.load (some 3) (.tmp 3)⟩,⟨none,none,.store 3 (.tmp 2) (.tmp 20)⟩]) .ret)))))
theorem k52 : compR Tryz.prog Tryz.f52 = some (c52, [.c 2 (some 3)]) := by kernel_rfl
theorem n52 : Tryz.f52.ntmps = 21 := by kernel_rfl
variable [Nonempty GA]
theorem pintE_ok (h : Heap) : ACalls Tryz.prog 120 [.string (bs []), .int .i64 10, .int .i64 0] h fun v h' => (∃ e, v = .tuple #[.int .i64 0, e] ∧ ∃ q : Int, e = .iface ET (.int .i64 q) ∧ (q = 1 ∨ q = 2)) ∧ h' = h := by
  refine acalls_of mix Tryz.func120 k120 n120 (by simp) fun hcl hb => ?_
  simp [c120, bs_lit, bs_size]
def ixW (w : List UInt8) (L : List (List UInt8)) : Int := match L.findIdx? (fun x => decide (x = w)) with | some i => (i : Int) | none => -1
theorem ixW_none {w : List UInt8} {L : List (List UInt8)} (h : ∀ j (hj : j < L.length), L[j] ≠ w) : ixW w L = -1 := by
  unfold ixW
  have : L.findIdx? (fun x => decide (x = w)) = none := by
    rw [List.findIdx?_eq_none_iff]
    intro x hx
    obtain ⟨j, hj, rfl⟩ := List.mem_iff_getElem.1 hx
    simpa using h j hj
  rw [this]
theorem ixW_some {w : List UInt8} {L : List (List UInt8)} {i : Nat} (hi : i < L.length) (h1 : L[i] = w) (h : ∀ j (hj : j < i), L[j] ≠ w) : ixW w L = (i : Int) := by
  unfold ixW
  have : L.findIdx? (fun x => decide (x = w)) = some i := by
    rw [List.findIdx?_eq_some_iff_getElem]
    refine ⟨hi, by simpa using h1, fun j hj => by simpa using h j hj⟩
  rw [this]
theorem sidx_ok (L : List (List UInt8)) (w : List UInt8) (v : Value) (h : Heap) (hl : Sl sv h v L) (hn : L.length ≤ 1000000) :
    ACalls Tryz.prog 51 [v, .string (bs w)] h fun r h' => r = .int .i64 (ixW w L) ∧ h' = h := by
  refine acalls_of mix Tryz.func51 k51 n51 (by simp) fun hcl hb => ?_
  have bl := Sl.below hl hcl
  have hsv : ∀ l, sv l = .string (bs l) := fun _ => rfl
  obtain ⟨a, c, rfl⟩ := Sl.form hl
  simp [c51]
  refine awp_loop_of (α := Nat) (fun i => i ≤ L.length ∧ ∀ j (hj : j < L.length), j < i → L[j] ≠ w) (fun i => [(0, .slice a L.length c), (1, .string (bs w)), (7, .int .i64 L.length), (8, .int .i64 i)]) (fun _ => h) (fun i => L.length - i) 0
    ⟨Nat.zero_le _, fun _ _ k => absurd k (by omega)⟩ (Heap.Sub.refl hcl) (by simp; exact ⟨bl, .string, .int, .int⟩) ?_
  rintro i ⟨hil, hany⟩
  by_cases hlt : i < L.length
  · obtain ⟨b1, o1, cs1, m1, e1, rfl, _, g1, g1'⟩ := Sl.at hl hlt
    by_cases hq : w = L[i]
    · have := ixW_some hlt hq.symm (fun j hj => hany j (by omega) hj)
      simp [hlt, aidx_of hlt, g1, apart, g1', hsv, this, ← hq]
    · have hq2 : ¬ bs w = bs L[i] := fun e => hq (bs_inj.1 e)
      simp [hlt, aidx_of hlt, g1, apart, g1', hsv, hq2]
      refine ⟨i + 1, by omega, ⟨by omega, fun j hj hji => ?_⟩, Heap.Sub.refl hcl, bl, .string, .int, ?_, .int⟩
      · rcases Nat.lt_or_eq_of_le (Nat.lt_succ_iff.1 hji) with k | rfl
        · exact hany j hj k
        · exact fun e => hq e.symm
      · rw [i64_small (by omega) (by omega)]; omega
  · have : i = L.length := by omega
    subst this
    have := ixW_none (w := w) (L := L) fun j hj => hany j hj hj
    simp [this]
def AN (l : List UInt8) (x : Int) : Prop := (∀ m : Int, -100000000000000000 < m → m < 100000000000000000 → l = itoaB m → x = m) ∧ (l = [] → x = 0)
theorem iatoiE_ok (h : Heap) : ACalls Tryz.prog 87 [.string (bs [])] h fun v h' => (∃ e, v = .tuple #[.int .i64 0, e] ∧ ∃ q : Int, e = .iface ET (.int .i64 q) ∧ (q = 1 ∨ q = 2)) ∧ h' = h := by
  refine acalls_of mix Tryz.func87 k87 n87 (by simp) fun hcl hb => ?_
  have hs0 : (bs ([] : List UInt8)).size = 0 := rfl
  simp [c87, hs0]
  refine (pintE_ok h).mono ?_
  rintro _ h9 ⟨⟨e, rfl, q, rfl, hq⟩, e'⟩
  rw [e']; clear e' h9
  simp
  exact hq
theorem atoiA_ok (l : List UInt8) (hl : l.length ≤ 1000000) (h : Heap) : ACalls Tryz.prog 50 [.string (bs l)] h fun v h' => (∃ x e, v = .tuple #[.int .i64 x, e] ∧ (e = .nilIface ∨ e = .iface NT unk) ∧ AN l x) ∧ h' = h := by
  by_cases h0 : l = []
  · subst h0
    refine acalls_of mix Tryz.func50 k50 n50 (by simp) fun hcl hb => ?_
    simp [c50]
    refine (iatoiE_ok h).mono ?_
    rintro _ h9 ⟨⟨e, rfl, q, rfl, hq⟩, e'⟩
    rw [e']; clear e' h9
    simp [aeq]
    refine (toErr_ok [65, 116, 111, 105] [] q hq (by simp) h).mono ?_
    rintro _ h9 ⟨rfl, rfl⟩
    simp
    refine ⟨0, _, ⟨rfl, rfl⟩, .inr rfl, fun m m1 m2 hm => ?_, fun _ => rfl⟩
    have := (itoaB_len m m1 m2).1
    rw [← hm] at this
    simp at this
  · refine (atoi_ok l hl h).mono ?_
    rintro v h9 ⟨⟨⟨x, e, rfl, he, hx⟩, hrd⟩, e'⟩
    refine ⟨⟨x, e, rfl, he, fun m m1 m2 hm => ?_, fun e => absurd e h0⟩, e'⟩
    have := hrd m m1 m2 hm
    simp only [Value.tuple.injEq, Array.mk.injEq, List.cons.injEq, Value.int.injEq] at this
    exact this.1.2
theorem cutB_le (c : UInt8) (w : List UInt8) : (cutB c w).1.length ≤ w.length ∧ (cutB c w).2.1.length ≤ w.length := by
  unfold cutB
  split
  · exact ⟨by simp; omega, by simp⟩
  · exact ⟨Nat.le_refl _, by simp⟩
theorem cutM_ok (w : List UInt8) (c : UInt8) (hw : w.length ≤ 100000) (h : Heap) : ACalls Tryz.prog 89 [.string (bs w), .string (bs [c])] h fun v h' => (∃ x, v = .tuple #[sv (cutB c w).1, .int .i64 x] ∧ AN (cutB c w).2.1 x) ∧ h' = h := by
  refine ACalls.same' (R := fun v => ∃ x, v = .tuple #[sv (cutB c w).1, .int .i64 x] ∧ AN (cutB c w).2.1 x) (fun v hv => by obtain ⟨x, rfl, _⟩ := hv; exact vb_tup2 .string .int) (acalls_of mix Tryz.func89 k89 n89 (by simp) fun hcl hb => ?_)
  have hsv : ∀ l, sv l = .string (bs l) := fun _ => rfl
  simp [c89, bs_lit]
  refine (cut1_ok w c h (by omega)).mono ?_
  rintro _ h9 ⟨rfl, e⟩
  rw [e]; clear e h9
  have hl := cutB_le c w
  simp [hsv]
  refine (atoiA_ok (cutB c w).2.1 (by omega) h).mono ?_
  rintro _ h9 ⟨⟨x, er, rfl, _, hx⟩, e⟩
  rw [e]; clear e h9
  simp [hsv]
  exact ⟨hx, Heap.Ext.refl h⟩
def SLw (w : List UInt8) (x : S3) : Prop := x.st = ixW (cutB 58 (cutB 64 w).1).1 stL ∧ AN (cutB 58 (cutB 64 w).1).2.1 x.ve ∧ AN (cutB 64 w).2.1 x.ba
def s3v (x : S3) : Value := .agg (x.l.map cI).toArray
theorem s3_below {n : Nat} (x : S3) : VBelow n (s3v x) := .agg fun i hi => by
  match i, hi with
  | 0, _ => exact .int
  | 1, _ => exact .int
  | 2, _ => exact .int
theorem slotW_ok (w : List UInt8) (hw : w.length ≤ 100000) (h : Heap) : ACalls Tryz.prog 52 [.string (bs w)] h fun v h' => (∃ x, v = s3v x ∧ SLw w x) ∧ h' = h := by
  refine ACalls.same' (R := fun v => ∃ x, v = s3v x ∧ SLw w x) (fun v hv => by obtain ⟨x, rfl, _⟩ := hv; exact s3_below x) (acalls_ofR mix Tryz.func52 k52 n52 (by simp) fun hcl hb => ?_)
  have hsv : ∀ l, sv l = .string (bs l) := fun _ => rfl
  have hl1 := cutB_le 64 w
  have hl2 := cutB_le 58 (cutB 64 w).1
  simp [c52, bs_lit]
  have n0 : (h.push (.cells [.int .i64 0, .int .i64 0, .int .i64 0] .ex 1)).n = h.n + 1 := rfl
  have f0 := cellsOf_new h [.int .i64 0, .int .i64 0, .int .i64 0] .ex 1
  have c0 : (h.push (.cells [.int .i64 0, .int .i64 0, .int .i64 0] .ex 1)).Closed := closed_push hcl (fun x hx => by simp at hx; rw [hx]; exact .int)
  have hp3 : ∀ a b c : Value, aput [Value.int .i64 0, .int .i64 0, .int .i64 0] 0 [a, b, c] = [a, b, c] := fun _ _ _ => rfl
  have e0 : ∀ o o', h.Ext (((h.push (.cells [.int .i64 0, .int .i64 0, .int .i64 0] .ex 1)).push o).push o') := fun o o' => (((Heap.Ext.refl h).push hcl _).push hcl o).push hcl o'
  have s0 : ∀ o o' o'', (((h.push (.cells [.int .i64 0, .int .i64 0, .int .i64 0] .ex 1)).push o).push o').set h.n o'' = ((h.push o'').push o).push o' := fun o o' o'' => by
    rw [push_set (by show h.n < h.n + 1 + 1; omega), push_set (by show h.n < h.n + 1; omega), set_push]
  refine (cutM_ok w 64 hw _).mono ?_
  rintro _ h9 ⟨⟨b, rfl, hb1⟩, e⟩
  rw [e]; clear e h9
  have k1 : ∀ c : List Value, ((h.push (.cells [.int .i64 0, .int .i64 0, .int .i64 0] .ex 1)).push (.cells c .ex 1)).cellsOf (h.n + 1) = some (c, .ex, 1) := fun c => cellsOf_new (h.push (.cells [.int .i64 0, .int .i64 0, .int .i64 0] .ex 1)) _ _ _
  have k2 : ∀ (c : List Value) o', ((h.push (.cells [.int .i64 0, .int .i64 0, .int .i64 0] .ex 1)).push (.cells c .ex 1)).set (h.n + 1) o' = (h.push (.cells [.int .i64 0, .int .i64 0, .int .i64 0] .ex 1)).push o' := fun c o' => set_push (h.push (.cells [.int .i64 0, .int .i64 0, .int .i64 0] .ex 1)) _ _
  have k3 : ∀ (c : List Value) (o : AObj), (((h.push (.cells [.int .i64 0, .int .i64 0, .int .i64 0] .ex 1)).push (.cells c .ex 1)).push o).cellsOf (h.n + 1) = some (c, .ex, 1) := fun c o => by rw [cellsOf_ne (by show ¬ h.n + 1 = h.n + 1 + 1; omega)]; exact k1 c
  have k4 : ∀ (o o2 o' : AObj), (((h.push (.cells [.int .i64 0, .int .i64 0, .int .i64 0] .ex 1)).push o).push o2).set (h.n + 1) o' = ((h.push (.cells [.int .i64 0, .int .i64 0, .int .i64 0] .ex 1)).push o').push o2 := fun o o2 o' => by
    rw [push_set (by show h.n + 1 < h.n + 1 + 1; omega)]
    exact congrArg (fun x => Heap.push x o2) (set_push (h.push (.cells [.int .i64 0, .int .i64 0, .int .i64 0] .ex 1)) _ _)
  have k5 : ∀ (o o2 : AObj), (((h.push (.cells [.int .i64 0, .int .i64 0, .int .i64 0] .ex 1)).push o).push o2).cellsOf h.n = some ([.int .i64 0, .int .i64 0, .int .i64 0], .ex, 1) := fun o o2 => by
    rw [cellsOf_ne (by show ¬ h.n = h.n + 1 + 1; omega), cellsOf_ne (by show ¬ h.n = h.n + 1; omega)]; exact f0
  have k6 : ∀ (c : List Value) (o o2 : AObj), (((h.push (.cells c .ex 1)).push o).push o2).cellsOf h.n = some (c, .ex, 1) := fun c o o2 => by
    rw [cellsOf_ne (by show ¬ h.n = h.n + 1 + 1; omega), cellsOf_ne (by show ¬ h.n = h.n + 1; omega)]; exact cellsOf_new _ _ _ _
  have ac3 : ∀ a b c : Value, acut [a, b, c] 0 3 = some [a, b, c] := fun _ _ _ => rfl
  simp [hsv, k1, k2, apart, aput, mcells]
  refine (cutM_ok (cutB 64 w).1 58 (by omega) _).mono ?_
  rintro _ h9 ⟨⟨v, rfl, hv1⟩, e⟩
  rw [e]; clear e h9
  simp [hsv, k1, k2, apart, aput, mcells]
  refine (states_ok _).mono ?_
  rintro _ h9 ⟨rfl, e⟩
  rw [e]; clear e h9
  simp
  refine (sidx_ok stL (cutB 58 (cutB 64 w).1).1 _ _ (.inr ⟨_, 0, 6, stL.map sv, .ex, 1, rfl, cellsOf_new _ _ _ _, by simp [stL], fun _ => by simp [stL], fun i hi => by simp [hi]⟩) (by simp [stL])).mono ?_
  rintro _ h9 ⟨rfl, e⟩
  rw [e]; clear e h9
  simp [k3, k4, k5, k6, s0, apart, aput, mcells, hp3, ac3]
  exact ⟨⟨⟨_, _, _⟩, rfl, rfl, hv1, hb1⟩, (((Heap.Ext.refl h).push hcl _).push hcl _).push hcl _⟩

def c45 : AC := .seq (.ops [⟨some 2,none,.mv (.const (.bool false))⟩]) (.seq (.ops [⟨some 3,none,.mv (.tmp 0)⟩,⟨some 4,none,.bin .eql (.tmp 3) (.const (.string ⟨⟨[]⟩⟩))⟩,⟨some 2,none,.mv (.tmp 4)⟩]) .ret)
theorem k45 : compF Tryz.prog Tryz.f45 = some (c45, [2]) := by kernel_rfl
theorem n45 : Tryz.f45.ntmps = 5 := by kernel_rfl
def c84 : AC := .seq (.ops [⟨some 4,none,.mv (.const (.int .i64 0))⟩]) (.seq (.seq (.ops [⟨some 6,none,.mv (.tmp 0)⟩,⟨some 7,none,.lenS false (.tmp 6)⟩,⟨some 8,none,.mv (.const (.int .i64 0))⟩]) (.block 0 (.loop (.seq (.ops [⟨some 9,none,.bin .lss (.tmp 8) (.tmp 7)⟩]) (.seq (.cond (.tmp 9) .skip (.exit 0)) (.seq (.block 1 (.seq (.ops [⟨some 10,none,.mv (.tmp 8)⟩,⟨some 5,none,.mv (.tmp 10)⟩]) (.seq (.ops [⟨some 11,none,.mv (.tmp 1)⟩,⟨some 12,none,.mv (.tmp 0)⟩,⟨some 13,none,.mv (.tmp 5)⟩,⟨some 14,none,.iAddrS 1 (.tmp 12) (.tmp 13)⟩,⟨some 15,none,.load none (.tmp 14)⟩,⟨some 16,none,.callv (.tmp 11) [.tmp 15]⟩]) (.cond (.tmp 16) (.seq (.ops [⟨some 17,none,.mv (.tmp 5)⟩,⟨some 4,none,.mv (.tmp 17)⟩]) .ret) .skip)))) (.ops [⟨some 18,none,.bin .add (.tmp 8) (.const (.int .i64 1))⟩,⟨some 8,none,.mv (.tmp 18)⟩]))))))) (.seq (.ops [⟨some 4,none,.mv (.const (.int .i64 (-1)))⟩]) .ret))
theorem k84 : compF Tryz.prog Tryz.f84 = some (c84, [4]) := by kernel_rfl
theorem n84 : Tryz.f84.ntmps = 19 := by kernel_rfl
def c44 : AC := .seq (.ops [⟨some 4,none,.mv (.const (.slice none 0 0))⟩]) (.seq (.ops [⟨some 8,none,.mv (.tmp 0)⟩,⟨some 9,none,.mv (.tmp 1)⟩,⟨some 10,none,.call 84 [.tmp 8,.tmp 9]⟩,⟨some 5,none,.mv (.tmp 10)⟩]) (.seq (.seq (.ops [⟨some 11,none,.mv (.tmp 5)⟩,⟨some 12,none,.bin .eql (.tmp 11) (.const (.int .i64 (-1)))⟩]) (.cond (.tmp 12) (.seq (.ops [⟨some 13,none,.mv (.tmp 0)⟩,⟨some 4,none,.mv (.tmp 13)⟩]) .ret) .skip)) (.seq (.seq (.ops [⟨some 14,none,.mv (.tmp 5)⟩,⟨some 15,none,.bin .add (.tmp 14) (.const (.int .i64 1))⟩,⟨some 6,none,.mv (.tmp 15)⟩]) (.block 0 (.loop (.seq (.seq (.ops [⟨some 16,none,.mv (.tmp 6)⟩,⟨some 17,none,.mv (.tmp 0)⟩,⟨some 18,none,.lenS false (.tmp 17)⟩,⟨some 19,none,.bin .lss (.tmp 16) (.tmp 18)⟩]) (.cond (.tmp 19) .skip (.exit 0))) (.seq (.block 1 (.seq (.ops [⟨some 22,none,.mv (.tmp 0)⟩,⟨some 23,none,.mv (.tmp 6)⟩,⟨some 24,none,.iAddrS 1 (.tmp 22) (.tmp 23)⟩,⟨some 25,none,.load none (.tmp 24)⟩,⟨some 7,none,.mv (.tmp 25)⟩]) (.seq (.ops [⟨some 26,none,.mv (.tmp 1)⟩,⟨some 27,none,.mv (.tmp 7)⟩,⟨some 28,none,.callv (.tmp 26) [.tmp 27]⟩,⟨some 29,none,.un .not (.tmp 28)⟩]) (.cond (.tmp 29) (.seq (.ops [⟨some 30,none,.mv (.tmp 0)⟩,⟨some 31,none,.mv (.tmp 5)⟩,⟨some 32,none,.mv (.tmp 7)⟩,⟨some 33,none,.iAddrS 1 (.tmp 30) (.tmp 31)⟩,⟨none,none,.store 1 (.tmp 33) (.tmp 32)⟩]) (.ops [⟨some 34,none,.mv (.tmp 5)⟩,⟨some 35,none,.bin .add (.tmp 34) (.const (.int .i64 1))⟩,⟨some 5,none,.mv (.tmp 35)⟩])) .skip)))) (.ops [⟨some 20,none,.mv (.tmp 6)⟩,⟨some 21,none,.bin .add (.tmp 20) (.const (.int .i64 1))⟩,⟨some 6,none,.mv (.tmp 21)⟩])))))) (.seq (.ops [⟨some 36,none,.mv (.tmp 0)⟩,⟨some 37,none,.mv (.tmp 5)⟩,⟨some 38,none,.slV 1 (.tmp 36) (some (.tmp 37)) none none⟩,⟨none,none,.clr [.string ⟨⟨[]⟩⟩] (.tmp 38)⟩]) (.seq (.ops [⟨some 39,none,.mv (.tmp 0)⟩,⟨some 40,none,.mv (.tmp 5)⟩,⟨some 41,none,.slV 1 (.tmp 39) none (some (.tmp 40)) none⟩,⟨some 4,none,.mv (.tmp 41)⟩]) .ret)))))
theorem k44 : compF Tryz.prog Tryz.f44 = some (c44, [4]) := by kernel_rfl
theorem n44 : Tryz.f44.ntmps = 42 := by kernel_rfl
def c17_0 : AC := .seq (.ops [⟨some 12,none,.bin .lss (.tmp 11) (.const (.int .i64 3))⟩]) (.seq (.cond (.tmp 12) .skip (.exit 0)) (.seq (.block 1 (.seq (.ops [⟨some 13,none,.mv (.tmp 11)⟩,⟨some 14,none,.iValA 3 3 (some 3) (.tmp 10) (.tmp 11)⟩,⟨some 5,none,.alloc [.int .i64 0,.int .i64 0,.int .i64 0]⟩,⟨some 4,none,.mv (.tmp 13)⟩,⟨none,none,.store 3 (.tmp 5) (.tmp 14)⟩]) (.draw [([⟨some 15,none,.mv (.tmp 3)⟩,⟨some 17,none,.mv (.tmp 4)⟩,⟨some 21,none,.fAddr 0 (.tmp 5)⟩,⟨some 22,none,.load none (.tmp 21)⟩,⟨some 25,none,.fAddr 1 (.tmp 5)⟩,⟨some 26,none,.load none (.tmp 25)⟩,⟨some 29,none,.fAddr 2 (.tmp 5)⟩,⟨some 30,none,.load none (.tmp 29)⟩],[⟨some 16,none,.call 42 []⟩],[⟨some 22,none,.load none (.tmp 21)⟩,⟨some 26,none,.load none (.tmp 25)⟩,⟨some 30,none,.load none (.tmp 29)⟩]),([⟨some 18,none,.iAddrS 1 (.tmp 16) (.tmp 17)⟩,⟨some 19,none,.load none (.tmp 18)⟩,⟨some 20,none,.bin .add (.tmp 19) (.const (.string ⟨⟨[61]⟩⟩))⟩],[⟨some 23,none,.call 18 [.tmp 22]⟩],[⟨some 19,none,.load none (.tmp 18)⟩,⟨some 26,none,.load none (.tmp 25)⟩,⟨some 30,none,.load none (.tmp 29)⟩]),([⟨some 24,none,.bin .add (.tmp 20) (.tmp 23)⟩],[⟨some 27,none,.call 43 [.const (.string ⟨⟨[58]⟩⟩),.tmp 26]⟩],[⟨some 19,none,.load none (.tmp 18)⟩,⟨some 30,none,.load none (.tmp 29)⟩]),([⟨some 28,none,.bin .add (.tmp 24) (.tmp 27)⟩],[⟨some 31,none,.call 43 [.const (.string ⟨⟨[64]⟩⟩),.tmp 30]⟩],[⟨some 19,none,.load none (.tmp 18)⟩]),([⟨some 32,none,.bin .add (.tmp 28) (.tmp 31)⟩],[⟨some 33,none,.buildS 1 [.string ⟨⟨[]⟩⟩] [(0,1,.tmp 32)]⟩],[]),([],[⟨some 34,none,.app 1 16 9 (.tmp 15) (.tmp 33)⟩],[]),([],[⟨some 3,none,.mv (.tmp 34)⟩],[]),([],[],[])]))) (.ops [⟨some 35,none,.bin .add (.tmp 11) (.const (.int .i64 1))⟩,⟨some 11,none,.mv (.tmp 35)⟩])))
def c17 : AC := .seq (.ops [⟨some 1,none,.box (.tmp 0)⟩,⟨some 2,none,.mv (.const (.string ⟨⟨[]⟩⟩))⟩]) (.seq (.seq (.ops [⟨some 6,none,.load (some 13) (.tmp 1)⟩,⟨some 7,none,.call 41 [.tmp 6]⟩,⟨some 8,none,.un .not (.tmp 7)⟩]) (.cond (.tmp 8) (.seq (.ops [⟨some 2,none,.mv (.const (.string ⟨⟨[]⟩⟩))⟩]) .ret) .skip)) (.seq (.ops [⟨some 3,none,.mv (.const (.slice none 0 0))⟩]) (.seq (.seq (.ops [⟨some 9,none,.fAddr 0 (.tmp 1)⟩,⟨some 10,none,.load (some 9) (.tmp 9)⟩,⟨some 11,none,.mv (.const (.int .i64 0))⟩]) (.block 0 (.loop c17_0))) (.seq (.draw [([⟨some 36,none,.mv (.tmp 3)⟩,⟨some 38,none,.fAddr 9 (.tmp 1)⟩,⟨some 39,none,.load none (.tmp 38)⟩,⟨some 43,none,.fAddr 10 (.tmp 1)⟩,⟨some 44,none,.load none (.tmp 43)⟩,⟨some 46,none,.fAddr 11 (.tmp 1)⟩,⟨some 47,none,.load none (.tmp 46)⟩,⟨some 49,none,.fAddr 12 (.tmp 1)⟩,⟨some 50,none,.load none (.tmp 49)⟩],[⟨some 37,none,.call 42 []⟩],[⟨some 39,none,.load none (.tmp 38)⟩,⟨some 44,none,.load none (.tmp 43)⟩,⟨some 47,none,.load none (.tmp 46)⟩,⟨some 50,none,.load none (.tmp 49)⟩]),([⟨some 40,none,.iAddrS 1 (.tmp 37) (.tmp 39)⟩,⟨some 41,none,.load none (.tmp 40)⟩,⟨some 42,none,.bin .add (.const (.string ⟨⟨[97,99,116,105,118,101,61]⟩⟩)) (.tmp 41)⟩],[⟨some 45,none,.call 43 [.const (.string ⟨⟨[102,108,111,111,114,61]⟩⟩),.tmp 44]⟩],[⟨some 39,none,.load none (.tmp 38)⟩,⟨some 41,none,.load none (.tmp 40)⟩,⟨some 47,none,.load none (.tmp 46)⟩,⟨some 50,none,.load none (.tmp 49)⟩]),([],[⟨some 48,none,.call 43 [.const (.string ⟨⟨[99,117,114,115,111,114,61]⟩⟩),.tmp 47]⟩],[⟨some 39,none,.load none (.tmp 38)⟩,⟨some 41,none,.load none (.tmp 40)⟩,⟨some 50,none,.load none (.tmp 49)⟩]),([],[⟨some 51,none,.call 43 [.const (.string ⟨⟨[105,110,116,101,110,116,61]⟩⟩),.tmp 50]⟩],[⟨some 39,none,.load none (.tmp 38)⟩,⟨some 41,none,.load none (.tmp 40)⟩]),([],[⟨some 52,none,.buildS 4 [.string ⟨⟨[]⟩⟩,.string ⟨⟨[]⟩⟩,.string ⟨⟨[]⟩⟩,.string ⟨⟨[]⟩⟩] [(0,1,.tmp 42),(1,1,.tmp 45),(2,1,.tmp 48),(3,1,.tmp 51)]⟩],[]),([],[⟨some 53,none,.app 1 16 9 (.tmp 36) (.tmp 52)⟩],[]),([],[⟨some 3,none,.mv (.tmp 53)⟩],[]),([],[],[])]) (.seq (.ops [⟨some 54,none,.mv (.tmp 3)⟩,⟨some 55,none,.call 44 [.tmp 54,.func 45]⟩,⟨some 56,none,.call 28 [.tmp 55,.const (.string ⟨⟨[32]⟩⟩)]⟩,⟨some 2,none,.mv (.tmp 56)⟩]) .ret)))))
theorem k17 : compF Tryz.prog Tryz.f17 = some (c17, [2]) := by kernel_rfl
theorem n17 : Tryz.f17.ntmps = 57 := by kernel_rfl
variable [Nonempty GA]
def neB (s : List UInt8) : Bool := decide (s ≠ [])
theorem empt_ok (s : List UInt8) (h : Heap) : ACalls Tryz.prog 45 [.string (bs s)] h fun v h' => v = .bool (decide (s = [])) ∧ h' = h := by
  refine acalls_of mix Tryz.func45 k45 n45 (by simp) fun hcl hb => ?_
  have hq : (bs s = bs []) = (s = []) := by rw [bs_inj]
  simp [c45, bs_lit, hq]
theorem okE : callOk Tryz.prog 45 = true := by kernel_rfl
theorem ixE_ok (L : List (List UInt8)) (v : Value) (h : Heap) (hl : Sl sv h v L) (hn : L.length ≤ 1000000) :
    ACalls Tryz.prog 84 [v, .func (.func 45) #[] #[]] h fun r h' => r = .int .i64 (ixW [] L) ∧ h' = h := by
  refine acalls_of mix Tryz.func84 k84 n84 (by simp) fun hcl hb => ?_
  have bl := Sl.below hl hcl
  have hsv : ∀ l, sv l = .string (bs l) := fun _ => rfl
  obtain ⟨a, c, rfl⟩ := Sl.form hl
  simp [c84]
  refine awp_loop_of (α := Nat) (fun i => i ≤ L.length ∧ ∀ j (hj : j < L.length), j < i → L[j] ≠ []) (fun i => [(0, .slice a L.length c), (1, .func (.func 45) #[] #[]), (7, .int .i64 L.length), (8, .int .i64 i)]) (fun _ => h) (fun i => L.length - i) 0
    ⟨Nat.zero_le _, fun _ _ k => absurd k (by omega)⟩ (Heap.Sub.refl hcl) (by simp; exact ⟨bl, by exact hb _ (by simp), .int, .int⟩) ?_
  rintro i ⟨hil, hany⟩
  by_cases hlt : i < L.length
  · obtain ⟨b1, o1, cs1, m1, e1, rfl, _, g1, g1'⟩ := Sl.at hl hlt
    obtain ⟨w, hw⟩ : ∃ w, L[i] = w := ⟨_, rfl⟩
    rw [hw] at g1'
    simp [hlt, aidx_of hlt, g1, apart, g1', hsv, okE]
    refine (empt_ok w _).mono ?_
    rintro v1 h1 ⟨rfl, e⟩
    rw [e]; clear e h1
    by_cases hq : w = []
    · have := ixW_some (w := []) hlt (by rw [hw]; exact hq) (fun j hj => hany j (by omega) hj)
      simp [hq, this]
    · simp [hq]
      refine ⟨i + 1, by omega, ⟨by omega, fun j hj hji => ?_⟩, Heap.Sub.refl hcl, bl, by exact hb _ (by simp), .int, ?_, .int⟩
      · rcases Nat.lt_or_eq_of_le (Nat.lt_succ_iff.1 hji) with k | rfl
        · exact hany j hj k
        · rw [hw]; exact hq
      · rw [i64_small (by omega) (by omega)]; omega
  · have : i = L.length := by omega
    subst this
    have := ixW_none (w := []) (L := L) fun j hj => hany j hj hj
    simp [this]
theorem filt_all {L : List (List UInt8)} (h : ∀ j (hj : j < L.length), L[j] ≠ []) : L.filter neB = L := by
  rw [List.filter_eq_self]
  intro a ha
  obtain ⟨j, hj, rfl⟩ := List.mem_iff_getElem.1 ha
  simpa [neB] using h j hj
theorem ixW_inv (w : List UInt8) (L : List (List UInt8)) : (ixW w L = -1 ∧ ∀ (j : Nat) (hj : j < L.length), L[j] ≠ w) ∨ ∃ i : Nat, ixW w L = (i : Int) ∧ ∃ hi : i < L.length, L[i] = w ∧ ∀ (j : Nat) (hj : j < i), L[j] ≠ w := by
  unfold ixW
  cases h : L.findIdx? (fun x => decide (x = w)) with
  | none =>
    rw [List.findIdx?_eq_none_iff] at h
    exact .inl ⟨rfl, fun j hj => by simpa using h _ (List.getElem_mem hj)⟩
  | some i =>
    rw [List.findIdx?_eq_some_iff_getElem] at h
    obtain ⟨h1, h2, h3⟩ := h
    exact .inr ⟨i, rfl, h1, by simpa using h2, fun j hj => by simpa using h3 j hj⟩
theorem aput_setM (l : List Value) (k : Nat) (v : Value) (h : k < l.length) : aput l k [v] = l.set k v := by
  unfold aput
  rw [List.set_eq_take_append_cons_drop, if_pos h]
  simp
theorem aput_lo {c vs : List Value} {k i : Nat} (h : i < k) (hk : k ≤ c.length) : (aput c k vs)[i]? = c[i]? := by
  unfold aput
  rw [List.append_assoc, List.getElem?_append_left (by rw [List.length_take]; omega), List.getElem?_take, if_pos h]
def strC (c : List Value) : Prop := ∀ v ∈ c, ∃ s, v = sv s
theorem strC_set {c : List Value} (h : strC c) (k : Nat) (s : List UInt8) : strC (c.set k (sv s)) := fun v hv => by
  rcases List.mem_or_eq_of_mem_set hv with hv | rfl
  · exact h v hv
  · exact ⟨s, rfl⟩
theorem filt_succ (L : List (List UInt8)) (j : Nat) (h : j < L.length) : (L.take (j + 1)).filter neB = (L.take j).filter neB ++ (if L[j] = [] then [] else [L[j]]) := by
  rw [List.take_succ_eq_append_getElem h, List.filter_append]
  congr 1
  by_cases q : L[j] = []
  · rw [if_pos q]; simp [neB, q]
  · rw [if_neg q]; simp [neB, q]
structure DelS where
  j : Nat
  c : List Value
theorem delE_ok (x : Nat) (L : List (List UInt8)) (md : BMode) (e0 : Nat) (h : Heap) (hx : h.cellsOf x = some (L.map sv, md, e0)) (hmd : md ≠ .ro) (hlo : md.isLoose = true → e0 = 1) (hL : L.length ≤ 100000) :
    ACalls Tryz.prog 44 [.slice (some ⟨x, 0, none⟩) L.length L.length, .func (.func 45) #[] #[]] h fun v h' => ∃ cells, v = .slice (some ⟨x, 0, none⟩) (L.filter neB).length L.length ∧ h' = h.set x (.cells cells md e0) ∧ cells.length = L.length ∧ ∀ i (hi : i < (L.filter neB).length), cells[i]? = some (sv (L.filter neB)[i]) := by
  refine acalls_of mix Tryz.func44 k44 n44 (by simp) fun hcl hb => ?_
  have hxn := cellsOf_lt hcl hx
  have hsv : ∀ l, sv l = .string (bs l) := fun _ => rfl
  have hsl : Sl sv h (.slice (some ⟨x, 0, none⟩) L.length L.length) L := .inr ⟨x, 0, L.length, L.map sv, md, e0, rfl, hx, Nat.le_refl _, fun _ => by simp, fun i hi => by simp [hi]⟩
  simp [c44]
  refine (ixE_ok L _ h hsl (by omega)).mono ?_
  rintro _ h9 ⟨rfl, e⟩
  rw [e]; clear e h9
  rcases ixW_inv [] L with ⟨hi, hall⟩ | ⟨i, hi, hil, hiw, hall⟩
  · have hf := filt_all hall
    rw [hi]
    simp [hf]
    refine ⟨L.map sv, (set_same (m_of_cells hx)).symm, by simp, fun i hi => by simp [hi]⟩
  · rw [hi]
    have hi1 : ¬ (i : Int) = -1 := by omega
    have w0 : IntKind.i64.wrap ((i : Int) + 1) = ((i + 1 : Nat) : Int) := by rw [i64_small (by omega) (by omega)]; omega
    simp [hi1, w0, -Int.natCast_add]
    have hfi : (L.take (i + 1)).filter neB = L.take i := by
      rw [List.take_succ_eq_append_getElem hil, List.filter_append, hiw]
      have : (L.take i).filter neB = L.take i := filt_all fun j hj => by
        rw [List.getElem_take]; exact hall j (by rw [List.length_take] at hj; omega)
      rw [this]
      simp [neB]
    refine awp_loop_of (α := DelS) (fun z => z.j ≤ L.length ∧ z.c.length = L.length ∧ strC z.c ∧ ((L.take z.j).filter neB).length < z.j ∧ (∀ k (hk : k < ((L.take z.j).filter neB).length), z.c[k]? = some (sv ((L.take z.j).filter neB)[k])) ∧ ∀ k (hk : k < L.length), z.j ≤ k → z.c[k]? = some (sv L[k]))
      (fun z => [(0, .slice (some ⟨x, 0, none⟩) L.length L.length), (1, .func (.func 45) #[] #[]), (5, .int .i64 (((L.take z.j).filter neB).length : Nat)), (6, .int .i64 z.j)]) (fun z => h.set x (.cells z.c md e0)) (fun z => L.length - z.j) ⟨i + 1, L.map sv⟩
      ⟨by show i + 1 ≤ L.length; omega, by simp, fun v hv => by obtain ⟨y, _, rfl⟩ := List.mem_map.1 hv; exact ⟨y, rfl⟩, by show ((L.take (i + 1)).filter neB).length < i + 1; rw [hfi]; simp; omega, fun k hk => by
        have hk' : k < ((L.take (i + 1)).filter neB).length := hk
        show (L.map sv)[k]? = some (sv ((L.take (i + 1)).filter neB)[k])
        simp only [hfi] at hk' ⊢
        rw [List.getElem?_map, List.getElem?_eq_getElem (by rw [List.length_take] at hk'; omega), List.getElem_take]; rfl, fun k hk _ => by
        show (L.map sv)[k]? = _
        rw [List.getElem?_map, List.getElem?_eq_getElem hk]; rfl⟩ (by
        show Heap.Sub _ (h.set x (.cells (L.map sv) md e0)) h
        rw [set_same (m_of_cells hx)]; exact Heap.Sub.refl hcl) (by
        have hil2 : min i L.length = i := by omega
        simp [hfi, hil2]
        exact ⟨.slice hxn, hb _ (by simp), .int, .int⟩) ?_
    rintro ⟨j, c⟩ ⟨hj, hcn, hcs, hkj, hk1, hk2⟩
    dsimp only at hj hcn hcs hkj hk1 hk2 ⊢
    have hcc := cellsOf_set h x c md e0
    have hcS : (h.set x (.cells c md e0)).Closed := closed_set hcl hxn fun v hv => by obtain ⟨y, rfl⟩ := hcs v hv; exact .string
    have hss : ∀ c', (h.set x (.cells c md e0)).set x (.cells c' md e0) = h.set x (.cells c' md e0) := fun c' => set_set _ _ _ _
    have hnS : (h.set x (.cells c md e0)).n = h.n := rfl
    have bF : VBelow h.n (.func (.func 45) #[] #[]) := hb _ (by simp)
    by_cases hlt : j < L.length
    · have hlt' : (j : Int) < (L.length : Int) := by omega
      have hg := hk2 j hlt (Nat.le_refl _)
      have hsucc := filt_succ L j hlt
      have w4 : IntKind.i64.wrap ((j : Int) + 1) = ((j + 1 : Nat) : Int) := by rw [i64_small (by omega) (by omega)]; omega
      obtain ⟨w, hw⟩ : ∃ w, L[j] = w := ⟨_, rfl⟩
      rw [hw] at hg hsucc
      generalize hF : (L.take j).filter neB = F at *
      simp [hlt', aun, aidx_of hlt, hcc, apart, hg, hsv, okE]
      refine (empt_ok w _).mono ?_
      rintro v1 h1 ⟨rfl, e⟩
      rw [e]; clear e h1
      by_cases hq : w = []
      · rw [if_pos hq, List.append_nil] at hsucc
        simp [hq, w4, aun, -Int.natCast_add]
        refine ⟨⟨j + 1, c⟩, by show L.length - (j + 1) < L.length - j; omega, ⟨by show j + 1 ≤ L.length; omega, hcn, hcs, by simp only [hsucc]; omega, fun k hk => by simp only [hsucc] at hk ⊢; exact hk1 k hk, fun k hk hle => hk2 k hk (by have : j + 1 ≤ k := hle; omega)⟩, Heap.Sub.refl hcS, ?_⟩
        exact ⟨.slice hxn, bF, ⟨by simp only [hsucc], .int⟩, rfl, .int⟩
      · rw [if_neg hq] at hsucc
        have hkl : F.length < L.length := by omega
        have w5 : IntKind.i64.wrap ((F.length : Int) + 1) = ((F.length + 1 : Nat) : Int) := by rw [i64_small (by omega) (by omega)]; omega
        simp [hq, aun, aidx_of hkl, hcc, hcn, mcells, hss, w4, w5, apart, show F.length + 1 ≤ L.length by omega, hmd, -Int.natCast_add]
        have hset := aput_setM c F.length (.string (bs w)) (by omega)
        have hsucc' : (L.take (j + 1)).filter neB = F ++ [w] := hsucc
        have hcA : (h.set x (.cells (aput c F.length [.string (bs w)]) md e0)).Closed := closed_set hcl hxn (show AObj.Below h.n (.cells (aput c F.length [.string (bs w)]) md e0) from fun v hv => by
          have : strC (aput c F.length [.string (bs w)]) := by rw [hset]; exact strC_set hcs F.length w
          obtain ⟨y, rfl⟩ := this v hv
          exact .string)
        refine ⟨⟨j + 1, aput c F.length [.string (bs w)]⟩, by show L.length - (j + 1) < L.length - j; omega, ⟨by show j + 1 ≤ L.length; omega, by show (aput c F.length [.string (bs w)]).length = L.length; rw [hset, List.length_set]; exact hcn, by show strC (aput c F.length [.string (bs w)]); rw [hset]; exact strC_set hcs F.length w, by simp only [hsucc', List.length_append, List.length_cons, List.length_nil]; omega, fun k hk => ?_, fun k hk hle => ?_⟩, Heap.Sub.refl hcA, .slice hxn, bF, ⟨by simp only [hsucc', List.length_append, List.length_cons, List.length_nil], .int⟩, rfl, .int⟩
        · simp only [hsucc', List.length_append, List.length_cons, List.length_nil] at hk ⊢
          show (aput c F.length [.string (bs w)])[k]? = _
          rw [hset, List.getElem?_set]
          by_cases hkF : F.length = k
          · subst hkF
            rw [if_pos rfl, if_pos (by omega)]
            simp [hsv]
          · rw [if_neg hkF, hk1 k (by omega), List.getElem_append_left (by omega)]; rfl
        · show (aput c F.length [.string (bs w)])[k]? = _
          have : j + 1 ≤ k := hle
          rw [hset, List.getElem?_set, if_neg (by omega)]
          exact hk2 k hk (by omega)
    · have hje : j = L.length := by omega
      subst hje
      have hlt' : ¬ (L.length : Int) < (L.length : Int) := by omega
      rw [List.take_of_length_le (Nat.le_refl _)] at hkj hk1 ⊢
      have hlo2 : (md.isLoose = true → e0 = 1) = True := eq_true hlo
      obtain ⟨n, hn⟩ : ∃ n, L.length - (L.filter neB).length = n + 1 := ⟨L.length - (L.filter neB).length - 1, by omega⟩
      have b1 : abounds L.length L.length (some (.int .i64 ((L.filter neB).length : Nat))) none none = some ((L.filter neB).length, L.length, L.length) := abounds_lo (by omega) (Nat.le_refl _)
      have b2 : abounds L.length L.length none (some (.int .i64 ((L.filter neB).length : Nat))) none = some (0, (L.filter neB).length, L.length) := abounds_hi (by omega)
      have hfl : (L.filter neB).length + (n + 1) ≤ c.length := by omega
      have hmd2 : ¬ md = .ro := hmd
      simp [hlt', b1, b2, hcc, hlo2, hn, bs_lit, hfl, hmd2, cellsOf_set, set_set]
      exact ⟨_, rfl, by rw [aput_len (by simp; omega)]; exact hcn, fun i hi => by rw [aput_lo hi (by omega)]; exact hk1 i hi⟩

variable [Nonempty GA]
def wordM (m : Mt) (i : Nat) : List UInt8 := gnL.getD i [] ++ [61] ++ stW (m.get i).st ++ pt [58] (m.get i).ve ++ pt [64] (m.get i).ba
def aActive : List UInt8 := [97, 99, 116, 105, 118, 101, 61]
def aFloor : List UInt8 := [102, 108, 111, 111, 114, 61]
def aCursor : List UInt8 := [99, 117, 114, 115, 111, 114, 61]
def aIntent : List UInt8 := [105, 110, 116, 101, 110, 116, 61]
def tailM (m : Mt) : List (List UInt8) := [aActive ++ gnL.getD m.act.toNat [], pt aFloor m.fl, pt aCursor m.cu, pt aIntent m.it]
def headM (m : Mt) : List (List UInt8) := [wordM m 0, wordM m 1, wordM m 2]
def mtText (m : Mt) : List UInt8 := if RightP m then joinB [32] ((headM m ++ tailM m).filter neB) else []
theorem gnL_getD (i : Nat) (h : i < 3) : (gnL.map sv)[i]? = some (sv (gnL.getD i [])) ∧ (gnL.getD i []).length ≤ 6 := by
  match i, h with
  | 0, _ => exact ⟨rfl, by decide⟩
  | 1, _ => exact ⟨rfl, by decide⟩
  | 2, _ => exact ⟨rfl, by decide⟩
theorem stW_len (n : Int) : (stW n).length ≤ 9 := by
  unfold stW
  split
  · obtain ⟨k, hk⟩ : ∃ k, n.toNat = k := ⟨_, rfl⟩
    have : k < 6 := by omega
    rw [hk]
    match k, this with
    | 0, _ => decide
    | 1, _ => decide
    | 2, _ => decide
    | 3, _ => decide
    | 4, _ => decide
    | 5, _ => decide
  · simp
theorem pt_len (mk : List UInt8) (n : Int) (h0 : 0 ≤ n) (h1 : n ≤ 281474976710655) : (pt mk n).length ≤ mk.length + 18 := by
  unfold pt
  split
  · simp
  · have := (itoaB_len n (by omega) (by omega)).2
    rw [List.length_append]; omega
theorem sumL_filt (p : List UInt8 → Bool) : ∀ L : List (List UInt8), sumL (L.filter p) ≤ sumL L
  | [] => Nat.le_refl _
  | x :: r => by
    have := sumL_filt p r
    unfold sumL at this ⊢
    rw [List.filter_cons]
    split
    · simp only [List.map_cons, List.sum_cons]; omega
    · simp only [List.map_cons, List.sum_cons]; omega
theorem wordM_len (m : Mt) (i : Nat) (hi : i < 3) (v1 : 0 ≤ (m.get i).ve) (v2 : (m.get i).ve ≤ 281474976710655) (v3 : 0 ≤ (m.get i).ba) (v4 : (m.get i).ba ≤ 281474976710655) : (wordM m i).length ≤ 60 := by
  have h1 := (gnL_getD i hi).2
  have h2 := stW_len (m.get i).st
  have h3 := pt_len [58] (m.get i).ve v1 v2
  have h4 := pt_len [64] (m.get i).ba v3 v4
  unfold wordM
  simp only [List.length_append, List.length_cons, List.length_nil] at h3 h4 ⊢
  omega
structure TxS where
  i : Nat
  nm : Option Nat
  v : Value
  H : Heap
set_option maxHeartbeats 4000000
theorem mtText_ok (m : Mt) (h : Heap) : ACalls Tryz.prog 17 [mv m] h fun v h' => v = sv (mtText m) ∧ h' = h := by
  refine ACalls.same .string (acalls_of mix Tryz.func17 k17 n17 (by simp) fun hcl hb => ?_)
  have hsv : ∀ l, sv l = .string (bs l) := fun _ => rfl
  have hm13 : ∀ x : Mt, mcells (mv x) = some (x.l.map cI) := fun _ => rfl
  have q13 : acut (m.l.map cI) 0 13 = some (m.l.map cI) := rfl
  have q9 : acut (m.l.map cI) 0 9 = some ((m.l.map cI).take 9) := rfl
  have h9 : (m.l.map cI)[9]? = some (cI m.act) := rfl
  have h10 : (m.l.map cI)[10]? = some (cI m.fl) := rfl
  have h11 : (m.l.map cI)[11]? = some (cI m.cu) := rfl
  have h12 : (m.l.map cI)[12]? = some (cI m.it) := rfl
  have hma : (.agg (m.l.map cI).toArray : Value) = mv m := rfl
  have hext1 := (Heap.Ext.refl h).push hcl (.cells (m.l.map cI) .ex 1)
  have hc1 : (h.push (.cells (m.l.map cI) .ex 1)).Closed := closed_push hcl (fun x hx => by obtain ⟨y, _, rfl⟩ := List.mem_map.1 hx; exact .int)
  simp only [c17, s_seq, s_ops]
  simp [hm13, bs_lit]
  generalize hHM : h.push (.cells (m.l.map cI) .ex 1) = HM at *
  have f0 : HM.cellsOf h.n = some (m.l.map cI, .ex, 1) := by rw [← hHM]; exact cellsOf_new _ _ _ _
  have hMn : HM.n = h.n + 1 := by rw [← hHM]; rfl
  simp [f0, q13, hma, apart]
  refine (mright_ok m HM).mono ?_
  rintro _ h9' ⟨rfl, e⟩
  rw [e]; clear e h9'
  by_cases hR : RightP m
  case neg =>
    have : mtText m = [] := if_neg hR
    simp [hR, aun, this, hsv]
    exact hext1
  have hT : mtText m = joinB [32] ((headM m ++ tailM m).filter neB) := if_pos hR
  rw [hT]
  clear hT
  have hvals : ∀ i : Nat, i < 3 → 0 ≤ (m.get i).ve ∧ (m.get i).ve ≤ 281474976710655 ∧ 0 ≤ (m.get i).ba ∧ (m.get i).ba ≤ 281474976710655 := by
    obtain ⟨_, _, _, ⟨⟨_, a2, a3, _⟩, _⟩, ⟨⟨_, b2, b3, _⟩, _⟩, ⟨⟨_, c2, c3, _⟩, _⟩, _⟩ := hR
    intro i hi
    match i, hi with
    | 0, _ => exact ⟨a2.1, a2.2, a3.1, by show m.s0.ba ≤ _; omega⟩
    | 1, _ => exact ⟨b2.1, b2.2, b3.1, by show m.s1.ba ≤ _; omega⟩
    | 2, _ => exact ⟨c2.1, c2.2, c3.1, by show m.s2.ba ≤ _; omega⟩
  have hact := hR.1
  have hfit := hR.2.1
  have q93 : ∀ j : Nat, j < 3 → acut ((m.l.map cI).take 9) (j * 3) 3 = some ((m.get j).l.map cI) := fun j hj => by
    match j, hj with
    | 0, _ => rfl
    | 1, _ => rfl
    | 2, _ => rfl
  have bag : ∀ n, VBelow n (.agg ((m.l.map cI).take 9).toArray) := fun n => .agg fun i hi => by
    have : ∀ v ∈ (m.l.map cI).take 9, VBelow n v := fun v hv => by obtain ⟨y, _, rfl⟩ := List.mem_map.1 (List.mem_of_mem_take hv); exact .int
    rw [toArray_getD]
    have hi' : i < ((m.l.map cI).take 9).length := by simpa using hi
    simp only [List.getD, List.getElem?_eq_getElem hi', Option.getD_some]
    exact this _ (List.getElem_mem hi')
  simp [hR, aun, f0, q9, apart]
  refine awp_loop_of (α := TxS) (fun z => z.i ≤ 3 ∧ LAt z.H 1 z.nm z.v z.i (((headM m).take z.i).map sv) ∧ (∀ y ob, HM.m y = some ob → z.H.m y = some ob) ∧ z.H.Closed ∧ HM.n ≤ z.H.n ∧ ∀ x, z.nm = some x → HM.n ≤ x)
    (fun z => [(1, .pointer (some ⟨h.n, 0, none⟩)), (3, z.v), (10, .agg ((m.l.map cI).take 9).toArray), (11, .int .i64 z.i)]) (fun z => z.H) (fun z => 3 - z.i) ⟨0, none, .slice none 0 0, HM⟩
    ⟨Nat.zero_le _, .inl ⟨rfl, rfl, rfl, rfl⟩, fun _ _ e => e, hc1, Nat.le_refl _, fun _ e => by cases e⟩ ⟨by show h.n ≤ HM.n; omega, Nat.le_refl _, fun _ _ e => e, hc1⟩ (by simp; exact ⟨.ptr (by show h.n < HM.n; omega), .snil, bag _, .int⟩) ?_
  rintro ⟨i, nm, v, H⟩ ⟨hi, hL, hk, hcH, hnH, hnm⟩
  dsimp only at hi hL hk hcH hnH hnm ⊢
  have fM := cellsOf_keep hk f0
  by_cases hi3 : i < 3
  · have hi' : (i : Int) < 3 := by omega
    have w4 : IntKind.i64.wrap ((i : Int) + 1) = ((i + 1 : Nat) : Int) := by rw [i64_small (by omega) (by omega)]; omega
    obtain ⟨hgn, hgl⟩ := gnL_getD i hi3
    obtain ⟨v1, v2, v3, v4⟩ := hvals i hi3
    have hsl := stW_len (m.get i).st
    have hp1 := pt_len [58] (m.get i).ve v1 v2
    have hp2 := pt_len [64] (m.get i).ba v3 v4
    have hwd : (headM m)[i]? = some (wordM m i) := by
      match i, hi3 with
      | 0, _ => rfl
      | 1, _ => rfl
      | 2, _ => rfl
    have htk : (headM m).take (i + 1) = (headM m).take i ++ [wordM m i] := by
      have hl : i < (headM m).length := by show i < 3; omega
      rw [List.take_succ_eq_append_getElem hl]
      rw [List.getElem?_eq_getElem hl, Option.some.injEq] at hwd
      rw [hwd]
    obtain ⟨gw, hgw⟩ : ∃ gw, gnL.getD i [] = gw := ⟨_, rfl⟩
    have hwe : wordM m i = gw ++ [61] ++ stW (m.get i).st ++ pt [58] (m.get i).ve ++ pt [64] (m.get i).ba := by rw [← hgw]; rfl
    rw [hgw] at hgn hgl
    rw [hsv] at hgn
    have hp1l : (pt [58] (m.get i).ve).length ≤ 19 := by simpa using hp1
    have hp2l : (pt [64] (m.get i).ba).length ≤ 19 := by simpa using hp2
    simp [c17_0, hi', aidx_of hi3, q93 i hi3, apart, S3.l, mcells, aput, cellsOf_at, set_at]
    have kT : ∀ u ob, H.m u = some ob → (H.push (.cells [cI (m.get i).st, cI (m.get i).ve, cI (m.get i).ba] .ex 1)).m u = some ob := fun u ob e => by rw [push_m, if_neg (by have := (hcH u ob e).1; omega)]; exact e
    have cT : (H.push (.cells [cI (m.get i).st, cI (m.get i).ve, cI (m.get i).ba] .ex 1)).Closed := closed_push hcH (fun x hx => by simp at hx; rcases hx with rfl | rfl | rfl <;> exact .int)
    have fT := cellsOf_new H [cI (m.get i).st, cI (m.get i).ve, cI (m.get i).ba] .ex 1
    have nT : (H.push (.cells [cI (m.get i).st, cI (m.get i).ve, cI (m.get i).ba] .ex 1)).n = H.n + 1 := rfl
    generalize H.push (.cells [cI (m.get i).st, cI (m.get i).ve, cI (m.get i).ba] .ex 1) = HT at *
    refine (slots_ok HT).mono ?_
    rintro _ h9' ⟨rfl, rfl⟩
    have kG : ∀ u ob, HT.m u = some ob → (HT.push (.cells (gnL.map sv) .ex 1)).m u = some ob := fun u ob e => by rw [push_m, if_neg (by have := (cT u ob e).1; omega)]; exact e
    have cG : (HT.push (.cells (gnL.map sv) .ex 1)).Closed := closed_push cT (fun x hx => by obtain ⟨y, _, rfl⟩ := List.mem_map.1 hx; exact .string)
    have fG := cellsOf_new HT (gnL.map sv) .ex 1
    have fTG := cellsOf_keep kG fT
    have nG : (HT.push (.cells (gnL.map sv) .ex 1)).n = HT.n + 1 := rfl
    have hLG : LAt (HT.push (.cells (gnL.map sv) .ex 1)) 1 nm v i (((headM m).take i).map sv) := hL.keep fun x e => by
      have hx := hL
      rw [e] at hx
      have hlt := hx.lt hcH
      rw [push_m, if_neg (by omega)]
      obtain ⟨ob, hob⟩ : ∃ ob, H.m x = some ob := by
        rcases hx with ⟨q, _⟩ | ⟨x', md, e', q, _, hc', _⟩
        · cases q
        · cases q; exact ⟨_, m_of_cells hc'⟩
      rw [hob]; exact kT x ob hob
    generalize HT.push (.cells (gnL.map sv) .ex 1) = HG at *
    have z1 : gw.length ≤ 9223372036854775806 := by omega
    have z2 : gw.length + 1 + (stW (m.get i).st).length ≤ 9223372036854775807 := by omega
    have z3 : gw.length + ((stW (m.get i).st).length + 1) + (pt [58] (m.get i).ve).length ≤ 9223372036854775807 := by omega
    have z4 : gw.length + ((stW (m.get i).st).length + (pt [58] (m.get i).ve).length + 1) + (pt [64] (m.get i).ba).length ≤ 9223372036854775807 := by omega
    simp [fTG, fG, aidx_of hi3, hgn, apart, bs_lit, hsv, bs_size, bs_append, z1]
    refine (stateM_ok (m.get i).st HG).mono ?_
    rintro _ h9' ⟨rfl, e⟩
    rw [e]; clear e h9'
    simp [fTG, fG, aidx_of hi3, hgn, apart, bs_lit, hsv, bs_size, bs_append, z2]
    refine (partM_ok [58] (m.get i).ve (by simp) v1 v2 HG).mono ?_
    rintro _ h9' ⟨rfl, e⟩
    rw [e]; clear e h9'
    simp [fTG, fG, aidx_of hi3, hgn, apart, bs_lit, hsv, bs_size, bs_append, z3]
    refine (partM_ok [64] (m.get i).ba (by simp) v3 v4 HG).mono ?_
    rintro _ h9' ⟨rfl, e⟩
    rw [e]; clear e h9'
    have fil1 : ∀ a : List UInt8, afill [.string (bs [])] [(0, 1, .string (bs a))] = some [.string (bs a)] := fun _ => rfl
    have hwe2 : wordM m i = gw ++ 61 :: (stW (m.get i).st ++ (pt [58] (m.get i).ve ++ pt [64] (m.get i).ba)) := by rw [hwe]; simp
    simp [fTG, fG, aidx_of hi3, hgn, apart, bs_lit, hsv, bs_size, bs_append, z4, fil1, ← hwe2]
    obtain ⟨W, hW⟩ : ∃ W, wordM m i = W := ⟨_, rfl⟩
    rw [hW] at htk ⊢
    have kW : ∀ u ob, HG.m u = some ob → (HG.push (.cells [.string (bs W)] .ex 1)).m u = some ob := fun u ob e => by rw [push_m, if_neg (by have := (cG u ob e).1; omega)]; exact e
    have cW : (HG.push (.cells [.string (bs W)] .ex 1)).Closed := closed_push cG (fun x hx => by simp at hx; rw [hx]; exact .string)
    have hfst : afirst (HG.push (.cells [.string (bs W)] .ex 1)) 1 1 (.slice (some ⟨HG.n, 0, none⟩) 1 1) = some [.string (bs W)] := by simp [afirst, cellsOf_new, acut]
    have hLW : LAt (HG.push (.cells [.string (bs W)] .ex 1)) 1 nm v i (((headM m).take i).map sv) := hLG.keep fun x e => by
      have hx := hLG
      rw [e] at hx
      have hlt := hx.lt cG
      rw [push_m, if_neg (by omega)]
    have nW : (HG.push (.cells [.string (bs W)] .ex 1)).n = HG.n + 1 := rfl
    generalize HG.push (.cells [.string (bs W)] .ex 1) = HW at *
    obtain ⟨a, rfl, v2', H2, happ, l2, keep2, n2, c3⟩ := lat_app (t := 9) (bytes := 16) (k := 1) (new := [.string (bs W)]) cW hLW (by omega) rfl (fun x hx => by rw [List.mem_singleton.1 hx]; exact .string) (by omega)
    simp [alen, hfst, happ, w4, -Int.natCast_add]
    have kA : ∀ y ob, HM.m y = some ob → H2.m y = some ob := fun y ob e => keep2 y ob (kW y ob (kG y ob (kT y ob (hk y ob e)))) fun q => by have := hnm y q; have := (hc1 y ob e).1; omega
    refine ⟨⟨i + 1, some HW.n, v2', H2⟩, by show 3 - (i + 1) < 3 - i; omega, ⟨by show i + 1 ≤ 3; omega, ?_, kA, c3, by show HM.n ≤ H2.n; omega, fun x e => by cases e; omega⟩, ⟨by show h.n ≤ H2.n; omega, Nat.le_refl _, fun _ _ e => e, c3⟩, .ptr (by show h.n < H2.n; omega), ⟨rfl, l2.below c3⟩, bag _, rfl, .int⟩
    show LAt H2 1 (some HW.n) v2' (i + 1) (List.take (i + 1) (List.map sv (headM m)))
    rw [← List.map_take, htk, List.map_append]
    exact l2
  · have hie : i = 3 := by omega
    subst hie
    have hi' : ¬ ((3 : Nat) : Int) < 3 := by omega
    simp [c17_0, fM, h9, h10, h11, h12, apart]
    have hl3 : (headM m).take 3 = headM m := rfl
    rw [hl3] at hL
    rw [Bool.or_eq_false_iff, Bool.or_eq_false_iff] at hfit
    have hfl := (unfit_iff _).1 hfit.1.1
    have hcu := (unfit_iff _).1 hfit.1.2
    have hit := (unfit_iff _).1 hfit.2
    refine (slots_ok H).mono ?_
    rintro _ h9' ⟨rfl, rfl⟩
    have kG : ∀ u ob, H.m u = some ob → (H.push (.cells (gnL.map sv) .ex 1)).m u = some ob := fun u ob e => by rw [push_m, if_neg (by have := (hcH u ob e).1; omega)]; exact e
    have cG : (H.push (.cells (gnL.map sv) .ex 1)).Closed := closed_push hcH (fun x hx => by obtain ⟨y, _, rfl⟩ := List.mem_map.1 hx; exact .string)
    have fG := cellsOf_new H (gnL.map sv) .ex 1
    have fMG := cellsOf_keep kG fM
    have nG : (H.push (.cells (gnL.map sv) .ex 1)).n = H.n + 1 := rfl
    have hLG : LAt (H.push (.cells (gnL.map sv) .ex 1)) 1 nm v 3 ((headM m).map sv) := hL.keep fun x e => by
      have hx := hL
      rw [e] at hx
      have hlt := hx.lt hcH
      rw [push_m, if_neg (by omega)]
    generalize H.push (.cells (gnL.map sv) .ex 1) = HG at *
    obtain ⟨k, hka⟩ : ∃ k : Nat, m.act = (k : Int) := ⟨m.act.toNat, by omega⟩
    have hk3 : k < 3 := by omega
    obtain ⟨hgn, hgl⟩ := gnL_getD k hk3
    have htl : tailM m = [aActive ++ gnL.getD k [], pt aFloor m.fl, pt aCursor m.cu, pt aIntent m.it] := by unfold tailM; rw [hka]; rfl
    obtain ⟨gw, hgw⟩ : ∃ gw, gnL.getD k [] = gw := ⟨_, rfl⟩
    rw [hgw] at hgn hgl htl
    rw [hsv] at hgn
    have z1 : 7 + gw.length ≤ 9223372036854775807 := by omega
    have hcI : ∀ n : Int, cI n = .int .i64 n := fun _ => rfl
    simp [fMG, fG, hka, hcI, aidx_of hk3, hgn, h9, h10, h11, h12, apart, bs_lit, bs_size, bs_append, z1]
    refine (partM_ok aFloor m.fl (by decide) hfl.1 hfl.2 HG).mono ?_
    rintro _ h9' ⟨rfl, e⟩
    rw [e]; clear e h9'
    simp [fMG, fG, hka, hcI, aidx_of hk3, hgn, h9, h10, h11, h12, apart, bs_lit, bs_size, bs_append, z1]
    refine (partM_ok aCursor m.cu (by decide) hcu.1 hcu.2 HG).mono ?_
    rintro _ h9' ⟨rfl, e⟩
    rw [e]; clear e h9'
    simp [fMG, fG, hka, hcI, aidx_of hk3, hgn, h9, h10, h11, h12, apart, bs_lit, bs_size, bs_append, z1]
    refine (partM_ok aIntent m.it (by decide) hit.1 hit.2 HG).mono ?_
    rintro _ h9' ⟨rfl, e⟩
    rw [e]; clear e h9'
    have fil4 : ∀ a b c d : List UInt8, afill [.string (bs []), .string (bs []), .string (bs []), .string (bs [])] [(0, 1, .string (bs a)), (1, 1, .string (bs b)), (2, 1, .string (bs c)), (3, 1, .string (bs d))] = some [.string (bs a), .string (bs b), .string (bs c), .string (bs d)] := fun _ _ _ _ => rfl
    simp [fMG, fG, hka, hcI, aidx_of hk3, hgn, h9, h10, h11, h12, hsv, apart, bs_lit, bs_size, bs_append, z1, fil4]
    have hae : aActive ++ gw = 97 :: 99 :: 116 :: 105 :: 118 :: 101 :: 61 :: gw := rfl
    have htm : (tailM m).map sv = [.string (bs (97 :: 99 :: 116 :: 105 :: 118 :: 101 :: 61 :: gw)), .string (bs (pt aFloor m.fl)), .string (bs (pt aCursor m.cu)), .string (bs (pt aIntent m.it))] := by rw [htl, ← hae]; rfl
    rw [← htm]
    have kW : ∀ u ob, HG.m u = some ob → (HG.push (.cells ((tailM m).map sv) .ex 1)).m u = some ob := fun u ob e => by rw [push_m, if_neg (by have := (cG u ob e).1; omega)]; exact e
    have cW : (HG.push (.cells ((tailM m).map sv) .ex 1)).Closed := closed_push cG (fun x hx => by obtain ⟨y, _, rfl⟩ := List.mem_map.1 hx; exact .string)
    have hfst : afirst (HG.push (.cells ((tailM m).map sv) .ex 1)) 1 4 (.slice (some ⟨HG.n, 0, none⟩) 4 4) = some ((tailM m).map sv) := by rw [htm]; simp [afirst, cellsOf_new, acut]
    have hLW : LAt (HG.push (.cells ((tailM m).map sv) .ex 1)) 1 nm v 3 ((headM m).map sv) := hLG.keep fun x e => by
      have hx := hLG
      rw [e] at hx
      have hlt := hx.lt cG
      rw [push_m, if_neg (by omega)]
    have nW : (HG.push (.cells ((tailM m).map sv) .ex 1)).n = HG.n + 1 := rfl
    generalize HG.push (.cells ((tailM m).map sv) .ex 1) = HW at *
    obtain ⟨a, rfl, v2', H2, happ, l2, keep2, n2, c3⟩ := lat_app (t := 9) (bytes := 16) (k := 4) (new := (tailM m).map sv) cW hLW (by omega) (by rw [htm]; rfl) (fun x hx => by obtain ⟨y, _, rfl⟩ := List.mem_map.1 hx; exact .string) (by omega)
    have kA : ∀ y ob, HM.m y = some ob → H2.m y = some ob := fun y ob e => keep2 y ob (kW y ob (kG y ob (hk y ob e))) fun q => by have := hnm y q; have := (hc1 y ob e).1; omega
    simp [alen, hfst, happ]
    rw [← List.map_append] at l2
    rcases l2 with ⟨q, _⟩ | ⟨x, md, e0, q, rfl, hxc, _, hmd, hlo⟩
    · cases q
    cases q
    have hln : (headM m ++ tailM m).length = 7 := rfl
    have hdel := delE_ok HW.n (headM m ++ tailM m) md e0 H2 hxc hmd hlo (by rw [hln]; omega)
    rw [hln] at hdel
    refine hdel.mono ?_
    rintro _ h9' ⟨cells, rfl, rfl, hcl2, hcg⟩
    have hflt : (headM m ++ tailM m).filter neB = (headM m).filter neB ++ (tailM m).filter neB := List.filter_append _ _
    have hfl7 : ((headM m ++ tailM m).filter neB).length ≤ 7 := by have := List.length_filter_le neB (headM m ++ tailM m); omega
    have hne : (headM m ++ tailM m).filter neB ≠ [] := by
      have : wordM m 0 ∈ (headM m ++ tailM m).filter neB := by
        rw [List.mem_filter]
        exact ⟨by simp [headM], by simp [neB, wordM]⟩
      intro q; rw [q] at this; cases this
    have hsum : sumL ((headM m ++ tailM m).filter neB) ≤ 1000 := by
      refine Nat.le_trans (sumL_filt _ _) ?_
      obtain ⟨a1, a2, a3, a4⟩ := hvals 0 (by omega)
      obtain ⟨b1, b2, b3, b4⟩ := hvals 1 (by omega)
      obtain ⟨c1, c2, c3, c4⟩ := hvals 2 (by omega)
      have h1 := wordM_len m 0 (by omega) a1 a2 a3 a4
      have h2 := wordM_len m 1 (by omega) b1 b2 b3 b4
      have h3 := wordM_len m 2 (by omega) c1 c2 c3 c4
      have h4 := pt_len aFloor m.fl hfl.1 hfl.2
      have h5 := pt_len aCursor m.cu hcu.1 hcu.2
      have h6 := pt_len aIntent m.it hit.1 hit.2
      have e1 : aFloor.length = 6 := rfl
      have e2 : aCursor.length = 7 := rfl
      have e3 : aIntent.length = 7 := rfl
      have e4 : (aActive ++ gw).length = 7 + gw.length := by rw [List.length_append]; rfl
      rw [htl]
      simp only [sumL, headM, List.cons_append, List.nil_append, List.map_cons, List.map_nil, List.sum_cons, List.sum_nil]
      omega
    rw [← hflt]
    clear hflt
    generalize (headM m ++ tailM m).filter neB = FL at *
    have hxn : HW.n < H2.n := cellsOf_lt c3 hxc
    simp
    refine (join_ok _ FL [32] (H2.set HW.n (.cells cells md e0)) ⟨HW.n, 0, 7, cells, md, e0, rfl, cellsOf_set _ _ _ _ _, hlo, hfl7, by rw [hcl2]; omega, fun i hi => by rw [Nat.zero_add]; exact hcg i hi⟩ hne (by simp) (by simp only [List.length_cons, List.length_nil]; omega)).mono ?_
    rintro _ h9' ⟨rfl, e⟩
    rw [e]; clear e h9'
    simp
    refine ⟨by show h.n ≤ H2.n; omega, fun u ob e => ?_⟩
    have hun := (hcl u ob e).1
    rw [set_m, if_neg (by omega)]
    exact kA u ob (hext1.m u ob e)

def c22_0 : AC := .seq (.seq (.ops [⟨some 10,none,.mv (.tmp 6)⟩,⟨some 11,none,.bin .lss (.tmp 10) (.const (.int .i64 3))⟩]) (.cond (.tmp 11) .skip (.exit 0))) (.seq (.block 1 (.seq (.ops [⟨some 14,none,.mv (.tmp 6)⟩,⟨some 15,none,.fAddr 0 (.tmp 1)⟩,⟨some 16,none,.iAddrA 3 3 (.tmp 15) (.tmp 14)⟩,⟨some 17,none,.load (some 3) (.tmp 16)⟩,⟨some 7,none,.alloc [.int .i64 0,.int .i64 0,.int .i64 0]⟩,⟨none,none,.store 3 (.tmp 7) (.tmp 17)⟩]) (.draw [([⟨some 18,none,.mv (.tmp 5)⟩,⟨some 19,none,.mv (.tmp 4)⟩,⟨some 20,none,.mv (.tmp 6)⟩,⟨some 21,none,.iAddrS 1 (.tmp 19) (.tmp 20)⟩,⟨some 22,none,.load none (.tmp 21)⟩,⟨some 23,none,.bin .add (.tmp 18) (.tmp 22)⟩,⟨some 24,none,.bin .add (.tmp 23) (.const (.string ⟨⟨[61]⟩⟩))⟩,⟨some 25,none,.mv (.tmp 3)⟩,⟨some 26,none,.fAddr 0 (.tmp 7)⟩,⟨some 27,none,.load none (.tmp 26)⟩,⟨some 28,none,.iAddrS 1 (.tmp 25) (.tmp 27)⟩,⟨some 29,none,.load none (.tmp 28)⟩,⟨some 30,none,.bin .add (.tmp 24) (.tmp 29)⟩,⟨some 31,none,.fAddr 1 (.tmp 7)⟩,⟨some 32,none,.load none (.tmp 31)⟩,⟨some 35,none,.fAddr 2 (.tmp 7)⟩,⟨some 36,none,.load none (.tmp 35)⟩],[⟨some 33,none,.call 53 [.const (.string ⟨⟨[58]⟩⟩),.tmp 32]⟩],[⟨some 22,none,.load none (.tmp 21)⟩,⟨some 27,none,.load none (.tmp 26)⟩,⟨some 29,none,.load none (.tmp 28)⟩,⟨some 36,none,.load none (.tmp 35)⟩]),([⟨some 34,none,.bin .add (.tmp 30) (.tmp 33)⟩],[⟨some 37,none,.call 53 [.const (.string ⟨⟨[64]⟩⟩),.tmp 36]⟩],[⟨some 22,none,.load none (.tmp 21)⟩,⟨some 27,none,.load none (.tmp 26)⟩,⟨some 29,none,.load none (.tmp 28)⟩]),([⟨some 38,none,.bin .add (.tmp 34) (.tmp 37)⟩,⟨some 39,none,.bin .add (.tmp 38) (.const (.string ⟨⟨[32]⟩⟩))⟩],[⟨some 5,none,.mv (.tmp 39)⟩],[]),([],[],[])]))) (.ops [⟨some 12,none,.mv (.tmp 6)⟩,⟨some 13,none,.bin .add (.tmp 12) (.const (.int .i64 1))⟩,⟨some 6,none,.mv (.tmp 13)⟩]))
def c22 : AC := .seq (.ops [⟨some 1,none,.box (.tmp 0)⟩,⟨some 2,none,.mv (.const (.string ⟨⟨[]⟩⟩))⟩]) (.seq (.ops [⟨some 8,none,.buildS 6 [.string ⟨⟨[]⟩⟩,.string ⟨⟨[]⟩⟩,.string ⟨⟨[]⟩⟩,.string ⟨⟨[]⟩⟩,.string ⟨⟨[]⟩⟩,.string ⟨⟨[]⟩⟩] [(0,1,.const (.string ⟨⟨[101,109,112,116,121]⟩⟩)),(1,1,.const (.string ⟨⟨[119,114,105,116,105,110,103]⟩⟩)),(2,1,.const (.string ⟨⟨[115,116,97,103,101,100]⟩⟩)),(3,1,.const (.string ⟨⟨[116,114,105,97,108]⟩⟩)),(4,1,.const (.string ⟨⟨[99,111,110,102,105,114,109,101,100]⟩⟩)),(5,1,.const (.string ⟨⟨[98,97,100]⟩⟩))]⟩,⟨some 3,none,.mv (.tmp 8)⟩]) (.seq (.ops [⟨some 9,none,.buildS 3 [.string ⟨⟨[]⟩⟩,.string ⟨⟨[]⟩⟩,.string ⟨⟨[]⟩⟩] [(0,1,.const (.string ⟨⟨[103,111,108,100,101,110]⟩⟩)),(1,1,.const (.string ⟨⟨[97]⟩⟩)),(2,1,.const (.string ⟨⟨[98]⟩⟩))]⟩,⟨some 4,none,.mv (.tmp 9)⟩]) (.seq (.ops [⟨some 5,none,.mv (.const (.string ⟨⟨[]⟩⟩))⟩]) (.seq (.seq (.ops [⟨some 6,none,.mv (.const (.int .i64 0))⟩]) (.block 0 (.loop c22_0))) (.seq (.draw [([⟨some 40,none,.mv (.tmp 5)⟩,⟨some 41,none,.bin .add (.tmp 40) (.const (.string ⟨⟨[97,99,116,105,118,101,61]⟩⟩))⟩,⟨some 42,none,.mv (.tmp 4)⟩,⟨some 43,none,.fAddr 9 (.tmp 1)⟩,⟨some 44,none,.load none (.tmp 43)⟩,⟨some 45,none,.iAddrS 1 (.tmp 42) (.tmp 44)⟩,⟨some 46,none,.load none (.tmp 45)⟩,⟨some 47,none,.bin .add (.tmp 41) (.tmp 46)⟩,⟨some 48,none,.fAddr 10 (.tmp 1)⟩,⟨some 49,none,.load none (.tmp 48)⟩,⟨some 52,none,.fAddr 11 (.tmp 1)⟩,⟨some 53,none,.load none (.tmp 52)⟩,⟨some 56,none,.fAddr 12 (.tmp 1)⟩,⟨some 57,none,.load none (.tmp 56)⟩],[⟨some 50,none,.call 53 [.const (.string ⟨⟨[32,102,108,111,111,114,61]⟩⟩),.tmp 49]⟩],[⟨some 44,none,.load none (.tmp 43)⟩,⟨some 46,none,.load none (.tmp 45)⟩,⟨some 53,none,.load none (.tmp 52)⟩,⟨some 57,none,.load none (.tmp 56)⟩]),([⟨some 51,none,.bin .add (.tmp 47) (.tmp 50)⟩],[⟨some 54,none,.call 53 [.const (.string ⟨⟨[32,99,117,114,115,111,114,61]⟩⟩),.tmp 53]⟩],[⟨some 44,none,.load none (.tmp 43)⟩,⟨some 46,none,.load none (.tmp 45)⟩,⟨some 57,none,.load none (.tmp 56)⟩]),([⟨some 55,none,.bin .add (.tmp 51) (.tmp 54)⟩],[⟨some 58,none,.call 53 [.const (.string ⟨⟨[32,105,110,116,101,110,116,61]⟩⟩),.tmp 57]⟩],[⟨some 44,none,.load none (.tmp 43)⟩,⟨some 46,none,.load none (.tmp 45)⟩]),([⟨some 59,none,.bin .add (.tmp 55) (.tmp 58)⟩,⟨some 2,none,.mv (.tmp 59)⟩],[],[])]) .ret)))))
theorem k22 : compF Tryz.prog Tryz.f22 = some (c22, [2]) := by kernel_rfl
theorem n22 : Tryz.f22.ntmps = 60 := by kernel_rfl
variable [Nonempty GA]
theorem stL_getD (k : Nat) (h : k < 6) : (stL.map sv)[k]? = some (sv (stW (k : Int))) := by
  rw [List.getElem?_map, List.getElem?_eq_getElem (show k < stL.length from h)]
  unfold stW
  rw [if_pos (by omega)]
  simp [List.getD_eq_getElem?_getD, List.getElem?_eq_getElem (show k < stL.length from h)]
def catM (m : Mt) : Nat → List UInt8
  | 0 => []
  | i + 1 => catM m i ++ (wordM m i ++ [32])
def rText (m : Mt) : List UInt8 := catM m 3 ++ (aActive ++ (gnL.getD m.act.toNat [] ++ (pt (32 :: aFloor) m.fl ++ (pt (32 :: aCursor) m.cu ++ pt (32 :: aIntent) m.it))))
theorem pt_sp (mk : List UInt8) (n : Int) : pt (32 :: mk) n = if n = 0 then [] else 32 :: pt mk n := by
  unfold pt
  split
  · rfl
  · rfl
theorem wordM_ne (m : Mt) (i : Nat) : neB (wordM m i) = true := by simp [neB, wordM]
theorem pt_ne {mk : List UInt8} (h : mk ≠ []) (n : Int) : neB (pt mk n) = decide (n ≠ 0) := by
  unfold pt neB
  by_cases h0 : n = 0
  · simp [h0]
  · simp [h0, h]
theorem rText_eq {m : Mt} (hR : RightP m) : rText m = mtText m := by
  have hT : mtText m = joinB [32] ((headM m ++ tailM m).filter neB) := if_pos hR
  have ha : neB (aActive ++ gnL.getD m.act.toNat []) = true := by simp [neB, aActive]
  have h1 := pt_ne (mk := aFloor) (by simp [aFloor]) m.fl
  have h2 := pt_ne (mk := aCursor) (by simp [aCursor]) m.cu
  have h3 := pt_ne (mk := aIntent) (by simp [aIntent]) m.it
  rw [hT]
  unfold rText
  rw [pt_sp, pt_sp, pt_sp]
  have hL : (headM m ++ tailM m).filter neB = [wordM m 0, wordM m 1, wordM m 2, aActive ++ gnL.getD m.act.toNat []] ++ ((if m.fl = 0 then [] else [pt aFloor m.fl]) ++ ((if m.cu = 0 then [] else [pt aCursor m.cu]) ++ (if m.it = 0 then [] else [pt aIntent m.it]))) := by
    simp only [headM, tailM, List.cons_append, List.nil_append, List.filter_cons, List.filter_nil, wordM_ne, ha, h1, h2, h3, if_true]
    by_cases f : m.fl = 0 <;> by_cases c : m.cu = 0 <;> by_cases t : m.it = 0 <;> simp [f, c, t]
  rw [hL]
  by_cases f : m.fl = 0 <;> by_cases c : m.cu = 0 <;> by_cases t : m.it = 0 <;> simp [f, c, t, catM, joinB]
theorem szifM {α : Type} {a b : Nat} {x y : Option α} (h : a ≤ b) : (if a ≤ b then x else y) = x := if_pos h
set_option maxHeartbeats 4000000
theorem rtext_ok (m : Mt) (hR : RightP m) (h : Heap) : ACalls Tryz.prog 22 [mv m] h fun v h' => v = sv (mtText m) ∧ h' = h := by
  rw [← rText_eq hR]
  refine ACalls.same .string (acalls_of mix Tryz.func22 k22 n22 (by simp) fun hcl hb => ?_)
  have hsv : ∀ l, sv l = .string (bs l) := fun _ => rfl
  have hcI : ∀ n : Int, cI n = .int .i64 n := fun _ => rfl
  have hm13 : ∀ x : Mt, mcells (mv x) = some (x.l.map cI) := fun _ => rfl
  have h9 : (m.l.map cI)[9]? = some (cI m.act) := rfl
  have h10 : (m.l.map cI)[10]? = some (cI m.fl) := rfl
  have h11 : (m.l.map cI)[11]? = some (cI m.cu) := rfl
  have h12 : (m.l.map cI)[12]? = some (cI m.it) := rfl
  have hext1 := (Heap.Ext.refl h).push hcl (.cells (m.l.map cI) .ex 1)
  have hc1 : (h.push (.cells (m.l.map cI) .ex 1)).Closed := closed_push hcl (fun x hx => by obtain ⟨y, _, rfl⟩ := List.mem_map.1 hx; exact .int)
  simp only [c22, s_seq, s_ops]
  simp [hm13, bs_lit]
  generalize hHM : h.push (.cells (m.l.map cI) .ex 1) = HM at *
  have f0 : HM.cellsOf h.n = some (m.l.map cI, .ex, 1) := by rw [← hHM]; exact cellsOf_new _ _ _ _
  have hMn : HM.n = h.n + 1 := by rw [← hHM]; rfl
  have fil6 : afill [.string (bs []), .string (bs []), .string (bs []), .string (bs []), .string (bs []), .string (bs [])] [(0, 1, .string (bs [101, 109, 112, 116, 121])), (1, 1, .string (bs [119, 114, 105, 116, 105, 110, 103])), (2, 1, .string (bs [115, 116, 97, 103, 101, 100])), (3, 1, .string (bs [116, 114, 105, 97, 108])), (4, 1, .string (bs [99, 111, 110, 102, 105, 114, 109, 101, 100])), (5, 1, .string (bs [98, 97, 100]))] = some (stL.map sv) := rfl
  have fil3 : afill [.string (bs []), .string (bs []), .string (bs [])] [(0, 1, .string (bs [103, 111, 108, 100, 101, 110])), (1, 1, .string (bs [97])), (2, 1, .string (bs [98]))] = some (gnL.map sv) := rfl
  simp [fil6, fil3]
  have hvals : ∀ i : Nat, i < 3 → (0 ≤ (m.get i).st ∧ (m.get i).st ≤ 5) ∧ 0 ≤ (m.get i).ve ∧ (m.get i).ve ≤ 281474976710655 ∧ 0 ≤ (m.get i).ba ∧ (m.get i).ba ≤ 281474976710655 := by
    obtain ⟨_, _, _, ⟨⟨a1, a2, a3, _⟩, _⟩, ⟨⟨b1, b2, b3, _⟩, _⟩, ⟨⟨c1, c2, c3, _⟩, _⟩, _⟩ := hR
    intro i hi
    match i, hi with
    | 0, _ => exact ⟨a1, a2.1, a2.2, a3.1, by show m.s0.ba ≤ _; omega⟩
    | 1, _ => exact ⟨b1, b2.1, b2.2, b3.1, by show m.s1.ba ≤ _; omega⟩
    | 2, _ => exact ⟨c1, c2.1, c2.2, c3.1, by show m.s2.ba ≤ _; omega⟩
  have hact := hR.1
  have hfit := hR.2.1
  rw [Bool.or_eq_false_iff, Bool.or_eq_false_iff] at hfit
  have hfl := (unfit_iff _).1 hfit.1.1
  have hcu := (unfit_iff _).1 hfit.1.2
  have hit := (unfit_iff _).1 hfit.2
  have k1 : ∀ u ob, HM.m u = some ob → (HM.push (.cells (stL.map sv) .ex 1)).m u = some ob := fun u ob e => by rw [push_m, if_neg (by have := (hc1 u ob e).1; omega)]; exact e
  have c1 : (HM.push (.cells (stL.map sv) .ex 1)).Closed := closed_push hc1 (fun x hx => by obtain ⟨y, _, rfl⟩ := List.mem_map.1 hx; exact .string)
  have g1 := cellsOf_new HM (stL.map sv) .ex 1
  have g0 := cellsOf_keep k1 f0
  have n1 : (HM.push (.cells (stL.map sv) .ex 1)).n = HM.n + 1 := rfl
  have x1 := hext1.push hcl (.cells (stL.map sv) .ex 1)
  generalize HM.push (.cells (stL.map sv) .ex 1) = H1 at *
  have k2 : ∀ u ob, H1.m u = some ob → (H1.push (.cells (gnL.map sv) .ex 1)).m u = some ob := fun u ob e => by rw [push_m, if_neg (by have := (c1 u ob e).1; omega)]; exact e
  have c2 : (H1.push (.cells (gnL.map sv) .ex 1)).Closed := closed_push c1 (fun x hx => by obtain ⟨y, _, rfl⟩ := List.mem_map.1 hx; exact .string)
  have f2 := cellsOf_new H1 (gnL.map sv) .ex 1
  have f1 := cellsOf_keep k2 g1
  have f00 := cellsOf_keep k2 g0
  have n2 : (H1.push (.cells (gnL.map sv) .ex 1)).n = H1.n + 1 := rfl
  have x2 := x1.push hcl (.cells (gnL.map sv) .ex 1)
  rw [n1] at f2 n2
  generalize H1.push (.cells (gnL.map sv) .ex 1) = H2 at *
  refine awp_loop_of (α := Nat) (fun i => i ≤ 3 ∧ (catM m i).length ≤ 61 * i)
    (fun i => [(1, .pointer (some ⟨h.n, 0, none⟩)), (3, .slice (some ⟨HM.n, 0, none⟩) 6 6), (4, .slice (some ⟨HM.n + 1, 0, none⟩) 3 3), (5, .string (bs (catM m i))), (6, .int .i64 i)]) (fun _ => H2) (fun i => 3 - i) 0
    ⟨Nat.zero_le _, by simp [catM]⟩ ⟨by show h.n ≤ H2.n; omega, Nat.le_refl _, fun _ _ e => e, c2⟩ (by simp [catM]; exact ⟨.ptr (by show h.n < H2.n; omega), .slice (by show HM.n < H2.n; omega), .slice (by show HM.n + 1 < H2.n; omega), .string, .int⟩) ?_
  rintro i ⟨hi, hcl3⟩
  by_cases hi3 : i < 3
  · have hi' : (i : Int) < 3 := by omega
    have w4 : IntKind.i64.wrap ((i : Int) + 1) = ((i + 1 : Nat) : Int) := by rw [i64_small (by omega) (by omega)]; omega
    obtain ⟨⟨v0, v0'⟩, v1, v2, v3, v4⟩ := hvals i hi3
    obtain ⟨hgn, hgl⟩ := gnL_getD i hi3
    obtain ⟨gt1, gt2⟩ := getst m i hi3
    have hsl := stW_len (m.get i).st
    have hp1 := pt_len [58] (m.get i).ve v1 v2
    have hp2 := pt_len [64] (m.get i).ba v3 v4
    have hwl := wordM_len m i hi3 v1 v2 v3 v4
    obtain ⟨k, hks⟩ : ∃ k : Nat, (m.get i).st = (k : Int) := ⟨(m.get i).st.toNat, by omega⟩
    have hk6 : k < 6 := by omega
    have hst := stL_getD k hk6
    have hwe : wordM m i = gnL.getD i [] ++ [61] ++ stW (k : Int) ++ pt [58] (m.get i).ve ++ pt [64] (m.get i).ba := by rw [← hks]; rfl
    have hce : catM m (i + 1) = catM m i ++ (wordM m i ++ [32]) := rfl
    rw [hks] at hsl
    obtain ⟨nv, hnv⟩ : ∃ nv : Nat, (m.get i).ve = (nv : Int) := ⟨(m.get i).ve.toNat, by omega⟩
    obtain ⟨nb, hnb⟩ : ∃ nb : Nat, (m.get i).ba = (nb : Int) := ⟨(m.get i).ba.toNat, by omega⟩
    obtain ⟨gw, hgw⟩ : ∃ gw, gnL.getD i [] = gw := ⟨_, rfl⟩
    obtain ⟨C, hC⟩ : ∃ C, catM m i = C := ⟨_, rfl⟩
    obtain ⟨St, hSt⟩ : ∃ St, stW (k : Int) = St := ⟨_, rfl⟩
    rw [hgw] at hgn hgl hwe
    rw [hC] at hce hcl3
    rw [hSt] at hst hsl hwe
    rw [hsv] at hgn hst
    have gl3 : acut (m.l.map cI) (i * 3) 3 = some [.int .i64 k, .int .i64 nv, .int .i64 nb] := by
      rw [gt1]
      simp [S3.l, hks, hnv, hnb]
    simp only [List.length_cons, List.length_nil] at hp1 hp2
    rw [hnv] at hp1 hwe v2
    rw [hnb] at hp2 hwe v4
    have kT : ∀ u ob, H2.m u = some ob → (H2.push (.cells [.int .i64 k, .int .i64 nv, .int .i64 nb] .ex 1)).m u = some ob := fun u ob e => by rw [push_m, if_neg (by have := (c2 u ob e).1; omega)]; exact e
    have fT := cellsOf_new H2 [.int .i64 k, .int .i64 nv, .int .i64 nb] .ex 1
    have t1 := cellsOf_keep kT f1
    have t2 := cellsOf_keep kT f2
    have z1 : C.length + gw.length ≤ 9223372036854775807 := by omega
    have z2 : C.length + gw.length ≤ 9223372036854775806 := by omega
    have z3 : C.length + (gw.length + 1) + St.length ≤ 9223372036854775807 := by omega
    have z4 : C.length + (gw.length + (St.length + 1)) + (pt [58] (nv : Int)).length ≤ 9223372036854775807 := by omega
    simp [c22_0, hi', hC, aidx_of hi3, f00, gl3, apart, mcells, aput, cellsOf_at, set_at]
    simp [fT, t1, t2, aidx_of hi3, aidx_of hk6, hgn, hst, apart, bs_size, bs_append, bs_lit, z1, z2, z3]
    have hp1' : (pt [58] (nv : Int)).length ≤ 19 := by omega
    have hp2' : (pt [64] (nb : Int)).length ≤ 19 := by omega
    refine (part17_ok [58] nv (by simp) (by omega) _).mono ?_
    rintro _ h9' ⟨rfl, e⟩
    rw [e]; clear e h9'
    simp (disch := first | exact trivial | (simp; done) | (simp; omega) | omega) [fT, t1, t2, aidx_of hi3, aidx_of hk6, hgn, hst, apart, bs_size, bs_append, bs_lit, hsv, szifM]
    refine (part17_ok [64] nb (by simp) (by omega) _).mono ?_
    rintro _ h9' ⟨rfl, e⟩
    rw [e]; clear e h9'
    simp (disch := first | exact trivial | (simp; done) | (simp; omega) | omega) [fT, t1, t2, aidx_of hi3, aidx_of hk6, hgn, hst, apart, bs_size, bs_append, bs_lit, hsv, szifM, w4, -Int.natCast_add]
    refine ⟨i + 1, by omega, ⟨by omega, by rw [hce, List.length_append, List.length_append]; simp; omega⟩, ⟨by show h.n ≤ H2.n; omega, Nat.le_succ _, kT, c2⟩, .ptr (by show h.n < H2.n; omega), .slice (by show HM.n < H2.n; omega), .slice (by show HM.n + 1 < H2.n; omega), ⟨?_, .string⟩, rfl, .int⟩
    rw [hce, hwe]
    simp
  · have hie : i = 3 := by omega
    subst hie
    obtain ⟨k, hka⟩ : ∃ k : Nat, m.act = (k : Int) := ⟨m.act.toNat, by omega⟩
    have hk3 : k < 3 := by omega
    obtain ⟨hgn, hgl⟩ := gnL_getD k hk3
    obtain ⟨nf, hnf⟩ : ∃ n : Nat, m.fl = (n : Int) := ⟨m.fl.toNat, by omega⟩
    obtain ⟨nc, hnc⟩ : ∃ n : Nat, m.cu = (n : Int) := ⟨m.cu.toNat, by omega⟩
    obtain ⟨nt, hnt⟩ : ∃ n : Nat, m.it = (n : Int) := ⟨m.it.toNat, by omega⟩
    have hrt : rText m = catM m 3 ++ (aActive ++ (gnL.getD k [] ++ (pt (32 :: aFloor) (nf : Int) ++ (pt (32 :: aCursor) (nc : Int) ++ pt (32 :: aIntent) (nt : Int))))) := by unfold rText; rw [hka, hnf, hnc, hnt]; rfl
    obtain ⟨gw, hgw⟩ : ∃ gw, gnL.getD k [] = gw := ⟨_, rfl⟩
    obtain ⟨C, hC⟩ : ∃ C, catM m 3 = C := ⟨_, rfl⟩
    rw [hgw] at hgn hgl hrt
    rw [hC] at hcl3 hrt ⊢
    rw [hsv] at hgn
    rw [hka] at h9
    rw [hnf] at h10
    rw [hnc] at h11
    rw [hnt] at h12
    have q1 := pt_len (32 :: aFloor) (nf : Int) (by omega) (by omega)
    have q2 := pt_len (32 :: aCursor) (nc : Int) (by omega) (by omega)
    have q3 := pt_len (32 :: aIntent) (nt : Int) (by omega) (by omega)
    have u1 : (32 :: aFloor).length = 7 := rfl
    have u2 : (32 :: aCursor).length = 8 := rfl
    have u3 : (32 :: aIntent).length = 8 := rfl
    rw [u1] at q1
    rw [u2] at q2
    rw [u3] at q3
    simp (disch := first | exact trivial | (simp; done) | (simp; omega) | omega) [c22_0, f00, f2, h9, h10, h11, h12, aidx_of hk3, hgn, apart, bs_size, bs_append, bs_lit, hsv, szifM, hcI]
    refine (part17_ok (32 :: aFloor) nf (by decide) (by omega) _).mono ?_
    rintro _ h9' ⟨rfl, e⟩
    rw [e]; clear e h9'
    simp (disch := first | exact trivial | (simp; done) | (simp; omega) | omega) [f00, f2, h9, h10, h11, h12, aidx_of hk3, hgn, apart, bs_size, bs_append, bs_lit, hsv, szifM, hcI]
    refine (part17_ok (32 :: aCursor) nc (by decide) (by omega) _).mono ?_
    rintro _ h9' ⟨rfl, e⟩
    rw [e]; clear e h9'
    simp (disch := first | exact trivial | (simp; done) | (simp; omega) | omega) [f00, f2, h9, h10, h11, h12, aidx_of hk3, hgn, apart, bs_size, bs_append, bs_lit, hsv, szifM, hcI]
    refine (part17_ok (32 :: aIntent) nt (by decide) (by omega) _).mono ?_
    rintro _ h9' ⟨rfl, e⟩
    rw [e]; clear e h9'
    simp (disch := first | exact trivial | (simp; done) | (simp; omega) | omega) [f00, f2, h9, h10, h11, h12, aidx_of hk3, hgn, apart, bs_size, bs_append, bs_lit, hsv, szifM, hcI]
    rw [hrt]
    exact ⟨rfl, x2⟩

def c21_0 : AC := .seq (.ops [⟨some 17,none,.bin .lss (.tmp 16) (.tmp 15)⟩]) (.seq (.cond (.tmp 17) .skip (.exit 0)) (.seq (.block 1 (.seq (.ops [⟨some 18,none,.iAddrS 1 (.tmp 14) (.tmp 16)⟩,⟨some 19,none,.load none (.tmp 18)⟩,⟨some 6,none,.mv (.tmp 19)⟩]) (.seq (.ops [⟨some 21,none,.mv (.tmp 6)⟩,⟨some 22,none,.call 49 [.tmp 21,.const (.string ⟨⟨[61]⟩⟩)]⟩,⟨some 20,none,.mv (.tmp 22)⟩,⟨some 23,none,.extr (.tmp 20) 0⟩,⟨some 24,none,.extr (.tmp 20) 1⟩,⟨some 25,none,.extr (.tmp 20) 2⟩,⟨some 7,none,.mv (.tmp 23)⟩,⟨some 8,none,.mv (.tmp 24)⟩,⟨some 9,none,.mv (.tmp 25)⟩]) (.seq (.ops [⟨some 27,none,.mv (.tmp 8)⟩,⟨some 28,none,.call 50 [.tmp 27]⟩,⟨some 26,none,.mv (.tmp 28)⟩,⟨some 29,none,.extr (.tmp 26) 0⟩,⟨some 30,none,.extr (.tmp 26) 1⟩,⟨some 10,none,.mv (.tmp 29)⟩,⟨some 11,none,.mv (.tmp 30)⟩]) (.seq (.ops [⟨some 31,none,.call 42 []⟩,⟨some 32,none,.mv (.tmp 7)⟩,⟨some 33,none,.call 51 [.tmp 31,.tmp 32]⟩,⟨some 12,none,.mv (.tmp 33)⟩]) (.block 2 (.seq (.ops [⟨some 35,none,.mv (.tmp 12)⟩,⟨some 36,none,.bin .geq (.tmp 35) (.const (.int .i64 0))⟩,⟨some 34,none,.mv (.tmp 36)⟩]) (.cond (.tmp 34) (.ops [⟨some 37,none,.mv (.tmp 12)⟩,⟨some 38,none,.mv (.tmp 8)⟩,⟨some 39,none,.call 52 [.tmp 38]⟩,⟨some 40,none,.fAddr 0 (.tmp 4)⟩,⟨some 41,none,.iAddrA 3 3 (.tmp 40) (.tmp 37)⟩,⟨none,none,.store 3 (.tmp 41) (.tmp 39)⟩]) (.seq (.ops [⟨some 43,none,.mv (.tmp 7)⟩,⟨some 44,none,.bin .eql (.tmp 43) (.const (.string ⟨⟨[97,99,116,105,118,101]⟩⟩))⟩,⟨some 42,none,.mv (.tmp 44)⟩]) (.cond (.tmp 42) (.ops [⟨some 45,none,.call 42 []⟩,⟨some 46,none,.mv (.tmp 8)⟩,⟨some 47,none,.call 51 [.tmp 45,.tmp 46]⟩,⟨some 48,none,.fAddr 9 (.tmp 4)⟩,⟨none,none,.store 1 (.tmp 48) (.tmp 47)⟩]) (.seq (.ops [⟨some 50,none,.mv (.tmp 7)⟩,⟨some 51,none,.bin .eql (.tmp 50) (.const (.string ⟨⟨[102,108,111,111,114]⟩⟩))⟩,⟨some 49,none,.mv (.tmp 51)⟩]) (.cond (.tmp 49) (.ops [⟨some 52,none,.mv (.tmp 10)⟩,⟨some 53,none,.fAddr 10 (.tmp 4)⟩,⟨none,none,.store 1 (.tmp 53) (.tmp 52)⟩]) (.seq (.ops [⟨some 55,none,.mv (.tmp 7)⟩,⟨some 56,none,.bin .eql (.tmp 55) (.const (.string ⟨⟨[99,117,114,115,111,114]⟩⟩))⟩,⟨some 54,none,.mv (.tmp 56)⟩]) (.cond (.tmp 54) (.ops [⟨some 57,none,.mv (.tmp 10)⟩,⟨some 58,none,.fAddr 11 (.tmp 4)⟩,⟨none,none,.store 1 (.tmp 58) (.tmp 57)⟩]) (.seq (.ops [⟨some 60,none,.mv (.tmp 7)⟩,⟨some 61,none,.bin .eql (.tmp 60) (.const (.string ⟨⟨[105,110,116,101,110,116]⟩⟩))⟩,⟨some 59,none,.mv (.tmp 61)⟩]) (.cond (.tmp 59) (.ops [⟨some 62,none,.mv (.tmp 10)⟩,⟨some 63,none,.fAddr 12 (.tmp 4)⟩,⟨none,none,.store 1 (.tmp 63) (.tmp 62)⟩]) .skip)))))))))))))))) (.ops [⟨some 64,none,.bin .add (.tmp 16) (.const (.int .i64 1))⟩,⟨some 16,none,.mv (.tmp 64)⟩])))
def c21 : AC := .seq (.ops [⟨some 2,none,.alloc [.int .i64 0,.int .i64 0,.int .i64 0,.int .i64 0,.int .i64 0,.int .i64 0,.int .i64 0,.int .i64 0,.int .i64 0,.int .i64 0,.int .i64 0,.int .i64 0,.int .i64 0]⟩,⟨some 3,none,.mv (.const (.int .i64 0))⟩]) (.seq (.ops [⟨some 4,none,.alloc [.int .i64 0,.int .i64 0,.int .i64 0,.int .i64 0,.int .i64 0,.int .i64 0,.int .i64 0,.int .i64 0,.int .i64 0,.int .i64 0,.int .i64 0,.int .i64 0,.int .i64 0]⟩]) (.seq (.seq (.ops [⟨some 13,none,.mv (.tmp 0)⟩,⟨some 14,none,.call 48 [.tmp 13,.const (.string ⟨⟨[32]⟩⟩)]⟩,⟨some 15,none,.lenS false (.tmp 14)⟩,⟨some 16,none,.mv (.const (.int .i64 0))⟩]) (.block 0 (.loop c21_0))) (.seq (.seq (.ops [⟨some 65,none,.mv (.tmp 0)⟩,⟨some 66,none,.bin .eql (.tmp 65) (.const (.string ⟨⟨[]⟩⟩))⟩,⟨some 67,none,.mv (.tmp 66)⟩,⟨some 68,some (67,false),.load (some 13) (.tmp 4)⟩,⟨some 69,some (67,false),.call 17 [.tmp 68]⟩,⟨some 70,some (67,false),.mv (.tmp 0)⟩,⟨some 71,some (67,false),.bin .neq (.tmp 69) (.tmp 70)⟩,⟨some 72,none,.pick (.tmp 67) (.const (.bool true)) (.tmp 71)⟩]) (.cond (.tmp 72) (.seq (.ops [⟨some 73,none,.build [.int .i64 0,.int .i64 0,.int .i64 0,.int .i64 0,.int .i64 0,.int .i64 0,.int .i64 0,.int .i64 0,.int .i64 0,.int .i64 0,.int .i64 0,.int .i64 0,.int .i64 0] []⟩,⟨none,none,.store 13 (.tmp 2) (.tmp 73)⟩,⟨some 3,none,.mv (.const (.int .i64 6))⟩]) .ret) .skip)) (.seq (.ops [⟨some 74,none,.load (some 13) (.tmp 4)⟩,⟨none,none,.store 13 (.tmp 2) (.tmp 74)⟩,⟨some 3,none,.mv (.const (.int .i64 0))⟩]) .ret))))
theorem k21 : compR Tryz.prog Tryz.f21 = some (c21, [.c 2 (some 13), .t 3]) := by kernel_rfl
theorem n21 : Tryz.f21.ntmps = 75 := by kernel_rfl
variable [Nonempty GA]
def nActive : List UInt8 := [97, 99, 116, 105, 118, 101]
def nFloor : List UInt8 := [102, 108, 111, 111, 114]
def nCursor : List UInt8 := [99, 117, 114, 115, 111, 114]
def nIntent : List UInt8 := [105, 110, 116, 101, 110, 116]
def PW (w : List UInt8) (m m' : Mt) : Prop :=
  if 0 ≤ ixW (cutB 61 w).1 gnL then ∃ x, SLw (cutB 61 w).2.1 x ∧ m' = m.set (ixW (cutB 61 w).1 gnL) x
  else if (cutB 61 w).1 = nActive then m' = { m with act := ixW (cutB 61 w).2.1 gnL }
  else if (cutB 61 w).1 = nFloor then ∃ x, AN (cutB 61 w).2.1 x ∧ m' = { m with fl := x }
  else if (cutB 61 w).1 = nCursor then ∃ x, AN (cutB 61 w).2.1 x ∧ m' = { m with cu := x }
  else if (cutB 61 w).1 = nIntent then ∃ x, AN (cutB 61 w).2.1 x ∧ m' = { m with it := x }
  else m' = m
def PWs : List (List UInt8) → Mt → Mt → Prop
  | [], m, m' => m' = m
  | w :: r, m, m' => ∃ m1, PW w m m1 ∧ PWs r m1 m'
theorem PWs_snoc {w : List UInt8} {m1 m2 : Mt} (h : PW w m1 m2) : ∀ (r : List (List UInt8)) (m : Mt), PWs r m m1 → PWs (r ++ [w]) m m2
  | [], m, e => by cases e; exact ⟨m2, h, rfl⟩
  | x :: r, m, ⟨y, e1, e2⟩ => ⟨y, e1, PWs_snoc h r y e2⟩
theorem ixW_range (w : List UInt8) (L : List (List UInt8)) : -1 ≤ ixW w L ∧ ixW w L < L.length := by
  rcases ixW_inv w L with ⟨h, _⟩ | ⟨i, h, hi, _⟩ <;> omega
theorem put3 (m : Mt) (k : Nat) (hk : k < 3) (x : S3) : aput (m.l.map cI) (k * 3) (x.l.map cI) = (m.set k x).l.map cI := by
  match k, hk with
  | 0, _ => rfl
  | 1, _ => rfl
  | 2, _ => rfl
theorem split_mem_len {c : UInt8} : ∀ {l w : List UInt8}, w ∈ splitB c l → w.length ≤ l.length
  | [], w, h => by simp [splitB] at h; subst h; simp
  | x :: r, w, h => by
    unfold splitB at h
    split at h
    · rcases List.mem_cons.1 h with rfl | h
      · simp
      · have := split_mem_len h; simp; omega
    · cases hs : splitB c r with
      | nil => rw [hs] at h; simp [consH] at h; subst h; simp
      | cons a b =>
        rw [hs] at h
        simp only [consH, List.mem_cons] at h
        rcases h with rfl | h
        · have := split_mem_len (c := c) (l := r) (w := a) (by rw [hs]; simp)
          simp; omega
        · have := split_mem_len (c := c) (l := r) (w := w) (by rw [hs]; simp [h])
          simp; omega
structure PrS where
  i : Nat
  m : Mt
set_option maxHeartbeats 4000000
theorem mparse_ok (s : List UInt8) (hs : s.length ≤ 100000) (h : Heap) : ACalls Tryz.prog 21 [.string (bs s)] h fun v h' => (∃ M e, v = .tuple #[mv M, .int .i64 e] ∧ ∃ m, PWs (splitB 32 s) zeroM m ∧ ((s = [] ∨ mtText m ≠ s) ∧ M = zeroM ∧ e = 6 ∨ (s ≠ [] ∧ mtText m = s) ∧ M = m ∧ e = 0)) ∧ h' = h := by
  refine ACalls.same' (R := fun v => ∃ M e, v = .tuple #[mv M, .int .i64 e] ∧ ∃ m, PWs (splitB 32 s) zeroM m ∧ ((s = [] ∨ mtText m ≠ s) ∧ M = zeroM ∧ e = 6 ∨ (s ≠ [] ∧ mtText m = s) ∧ M = m ∧ e = 0)) (fun v hv => by obtain ⟨M, e, rfl, _⟩ := hv; exact vb_tup2 (mv_below M) .int) (acalls_ofR mix Tryz.func21 k21 n21 (by simp) fun hcl hb => ?_)
  have hsv : ∀ l, sv l = .string (bs l) := fun _ => rfl
  have hz13 : ([.int .i64 0, .int .i64 0, .int .i64 0, .int .i64 0, .int .i64 0, .int .i64 0, .int .i64 0, .int .i64 0, .int .i64 0, .int .i64 0, .int .i64 0, .int .i64 0, .int .i64 0] : List Value) = zeroM.l.map cI := rfl
  have hbl : ∀ (m : Mt) n, ∀ x ∈ m.l.map cI, VBelow n x := fun m n x hx => by obtain ⟨y, _, rfl⟩ := List.mem_map.1 hx; exact .int
  simp only [c21, s_seq, s_ops]
  simp [bs_lit, hz13]
  have g0 := cellsOf_new h (zeroM.l.map cI) .ex 1
  have c0 : (h.push (.cells (zeroM.l.map cI) .ex 1)).Closed := closed_push hcl (hbl _ _)
  have n0 : (h.push (.cells (zeroM.l.map cI) .ex 1)).n = h.n + 1 := rfl
  have x0 := (Heap.Ext.refl h).push hcl (.cells (zeroM.l.map cI) .ex 1)
  generalize h.push (.cells (zeroM.l.map cI) .ex 1) = H0 at *
  have g1 := cellsOf_new H0 (zeroM.l.map cI) .ex 1
  have c1 : (H0.push (.cells (zeroM.l.map cI) .ex 1)).Closed := closed_push c0 (hbl _ _)
  have n1 : (H0.push (.cells (zeroM.l.map cI) .ex 1)).n = H0.n + 1 := rfl
  have k1 : ∀ u ob, H0.m u = some ob → (H0.push (.cells (zeroM.l.map cI) .ex 1)).m u = some ob := fun u ob e => by rw [push_m, if_neg (by have := (c0 u ob e).1; omega)]; exact e
  have x1 := x0.push hcl (.cells (zeroM.l.map cI) .ex 1)
  have g0' := cellsOf_keep k1 g0
  rw [n0] at g1 n1
  generalize H0.push (.cells (zeroM.l.map cI) .ex 1) = H1 at *
  refine (splitS_ok s 32 H1 (by omega)).mono ?_
  rintro _ h9' ⟨rfl, rfl⟩
  have c2 : (H1.push (.cells ((splitB 32 s).map sv) .ex 1)).Closed := closed_push c1 (fun x hx => by obtain ⟨y, _, rfl⟩ := List.mem_map.1 hx; exact .string)
  have n2 : (H1.push (.cells ((splitB 32 s).map sv) .ex 1)).n = H1.n + 1 := rfl
  have k2 : ∀ u ob, H1.m u = some ob → (H1.push (.cells ((splitB 32 s).map sv) .ex 1)).m u = some ob := fun u ob e => by rw [push_m, if_neg (by have := (c1 u ob e).1; omega)]; exact e
  have f2 := cellsOf_new H1 ((splitB 32 s).map sv) .ex 1
  have f1 := cellsOf_keep k2 g1
  have f0 := cellsOf_keep k2 g0'
  have x2 := x1.push hcl (.cells ((splitB 32 s).map sv) .ex 1)
  have hlW := split_len 32 s
  rw [← hlW]
  have hWl : ∀ w ∈ splitB 32 s, w.length ≤ s.length := fun w hw => split_mem_len hw
  have hWn : (splitB 32 s).length ≤ 100001 := by rw [hlW]; have := List.count_le_length (a := (32 : UInt8)) (l := s); omega
  generalize splitB 32 s = W at *
  rw [n1] at f2 n2
  generalize H1.push (.cells (W.map sv) .ex 1) = H2 at *
  have sB : ∀ (m : Mt), (H2.set (h.n + 1) (.cells (m.l.map cI) .ex 1)).Closed := fun m => closed_set c2 (by omega) (hbl m _)
  have fS : ∀ m : Mt, (H2.set (h.n + 1) (.cells (m.l.map cI) .ex 1)).cellsOf (h.n + 1) = some (m.l.map cI, .ex, 1) := fun m => cellsOf_set _ _ _ _ _
  have f2S : ∀ m : Mt, (H2.set (h.n + 1) (.cells (m.l.map cI) .ex 1)).cellsOf (h.n + 1 + 1) = some (W.map sv, .ex, 1) := fun m => by rw [cellsOf_set_ne (by omega)]; exact f2
  have f0S : ∀ m : Mt, (H2.set (h.n + 1) (.cells (m.l.map cI) .ex 1)).cellsOf h.n = some (zeroM.l.map cI, .ex, 1) := fun m => by rw [cellsOf_set_ne (by omega)]; exact f0
  have nS : ∀ m : Mt, (H2.set (h.n + 1) (.cells (m.l.map cI) .ex 1)).n = h.n + 3 := fun m => by show H2.n = _; omega
  simp [n1]
  refine awp_loop_of (α := PrS) (fun z => z.i ≤ W.length ∧ PWs (W.take z.i) zeroM z.m)
    (fun z => [(0, .string (bs s)), (2, .pointer (some ⟨h.n, 0, none⟩)), (4, .pointer (some ⟨h.n + 1, 0, none⟩)), (14, .slice (some ⟨h.n + 1 + 1, 0, none⟩) W.length W.length), (15, .int .i64 W.length), (16, .int .i64 z.i)]) (fun z => H2.set (h.n + 1) (.cells (z.m.l.map cI) .ex 1)) (fun z => W.length - z.i) ⟨0, zeroM⟩
    ⟨Nat.zero_le _, rfl⟩ (by
      show Heap.Sub _ (H2.set (h.n + 1) (.cells (zeroM.l.map cI) .ex 1)) H2
      rw [set_same (m_of_cells f1)]; exact ⟨by omega, Nat.le_refl _, fun _ _ e => e, c2⟩) (by simp; exact ⟨.string, .ptr (by show h.n < H2.n; omega), .ptr (by show h.n + 1 < H2.n; omega), .slice (by show h.n + 1 + 1 < H2.n; omega), .int, .int⟩) ?_
  rintro ⟨i, m⟩ ⟨hi, hP⟩
  dsimp only at hi hP ⊢
  have hSm := fS m
  have h2m := f2S m
  have h0m := f0S m
  have hnm := nS m
  have hcm := sB m
  have hset : ∀ c', (H2.set (h.n + 1) (.cells (m.l.map cI) .ex 1)).set (h.n + 1) (.cells c' .ex 1) = H2.set (h.n + 1) (.cells c' .ex 1) := fun c' => set_set _ _ _ _
  generalize hHS : H2.set (h.n + 1) (.cells (m.l.map cI) .ex 1) = HS at *
  by_cases hlt : i < W.length
  · have hi' : (i : Int) < (W.length : Int) := by omega
    have w4 : IntKind.i64.wrap ((i : Int) + 1) = ((i + 1 : Nat) : Int) := by rw [i64_small (by omega) (by omega)]; omega
    obtain ⟨w, hw⟩ : ∃ w, W[i] = w := ⟨_, rfl⟩
    have hwl : w.length ≤ s.length := hWl w (by rw [← hw]; exact List.getElem_mem hlt)
    have hgw : (W.map sv)[i]? = some (.string (bs w)) := by rw [List.getElem?_map, List.getElem?_eq_getElem hlt, hw]; rfl
    have htk : W.take (i + 1) = W.take i ++ [w] := by rw [List.take_succ_eq_append_getElem hlt, hw]
    have hcl1 := cutB_le 61 w
    simp [c21_0, hi', aidx_of hlt, h2m, hgw, apart, bs_lit]
    refine (cut1_ok w 61 HS (by omega)).mono ?_
    rintro _ h9' ⟨rfl, e⟩
    rw [e]; clear e h9'
    have hPW : PW w m = PW w m := rfl
    generalize hnw : (cutB 61 w).1 = nw at *
    generalize hvw : (cutB 61 w).2.1 = vw at *
    simp [hsv]
    refine (atoiA_ok vw (by omega) HS).mono ?_
    rintro _ h9' ⟨⟨x, er, rfl, _, hx⟩, e⟩
    rw [e]; clear e h9'
    simp [hsv]
    refine (slots_ok HS).mono ?_
    rintro _ h9' ⟨rfl, rfl⟩
    have kG : ∀ u ob, HS.m u = some ob → (HS.push (.cells (gnL.map sv) .ex 1)).m u = some ob := fun u ob e => by rw [push_m, if_neg (by have := (hcm u ob e).1; omega)]; exact e
    have cG : (HS.push (.cells (gnL.map sv) .ex 1)).Closed := closed_push hcm (fun x hx => by obtain ⟨y, _, rfl⟩ := List.mem_map.1 hx; exact .string)
    have slG : Sl sv (HS.push (.cells (gnL.map sv) .ex 1)) (.slice (some ⟨HS.n, 0, none⟩) 3 3) gnL := .inr ⟨_, 0, 3, gnL.map sv, .ex, 1, rfl, cellsOf_new _ _ _ _, by simp [gnL], fun _ => by simp [gnL], fun i hi => by simp [hi]⟩
    have fSG := cellsOf_keep kG hSm
    have nG : (HS.push (.cells (gnL.map sv) .ex 1)).n = h.n + 4 := by show HS.n + 1 = _; omega
    have sG : ∀ c', (HS.push (.cells (gnL.map sv) .ex 1)).set (h.n + 1) (.cells c' .ex 1) = (H2.set (h.n + 1) (.cells c' .ex 1)).push (.cells (gnL.map sv) .ex 1) := fun c' => by rw [push_set (by omega), hset]
    generalize HS.push (.cells (gnL.map sv) .ex 1) = HG at *
    simp
    refine (sidx_ok gnL nw _ HG slG (by simp [gnL])).mono ?_
    rintro _ h9' ⟨rfl, e⟩
    rw [e]; clear e h9'
    have hrg := ixW_range nw gnL
    have hg3 : gnL.length = 3 := rfl
    rw [hg3] at hrg
    by_cases hix : 0 ≤ ixW nw gnL
    · obtain ⟨k, hk⟩ : ∃ k : Nat, ixW nw gnL = (k : Int) := ⟨(ixW nw gnL).toNat, by omega⟩
      have hk3 : k < 3 := by omega
      rw [hk]
      simp [hsv]
      refine (slotW_ok vw (by omega) HG).mono ?_
      rintro _ h9' ⟨⟨y, rfl, hy⟩, e⟩
      rw [e]; clear e h9'
      have hms : mcells (s3v y) = some (y.l.map cI) := by simp [s3v, mcells]
      have hyl : (y.l.map cI).length = 3 := rfl
      have hk13 : k * 3 + 3 ≤ m.l.length := by show k * 3 + 3 ≤ 13; omega
      have hput := put3 m k hk3 y
      simp [aidx_of hk3, hms, hyl, fSG, apart, hk13, hput, sG, w4, -Int.natCast_add]
      have hPn := PWs_snoc (m2 := m.set k y) (by unfold PW; rw [hnw, hvw]; rw [if_pos (by rw [hk]; omega)]; exact ⟨y, hy, by rw [hk]⟩) _ _ hP
      rw [← htk] at hPn
      exact ⟨⟨i + 1, m.set k y⟩, by show W.length - (i + 1) < W.length - i; omega, ⟨by show i + 1 ≤ W.length; omega, hPn⟩, ⟨by show h.n ≤ H2.n; omega, (by show H2.n ≤ H2.n + 1; omega), (fun b o e => by rw [push_m, if_neg (by have := (sB (m.set k y) b o e).1; have hq : (H2.set (h.n + 1) (.cells ((m.set k y : Mt).l.map cI) .ex 1)).n = H2.n := rfl; omega)]; exact e), sB (m.set k y)⟩, .string, .ptr (by show h.n < H2.n; omega), .ptr (by show h.n + 1 < H2.n; omega), .slice (by show h.n + 1 + 1 < H2.n; omega), .int, rfl, .int⟩

    · have hi1 : ixW nw gnL = -1 := by omega
      have q1T : nw = nActive → (bs nw = bs [97, 99, 116, 105, 118, 101]) = True := fun e => by rw [bs_inj]; exact eq_true e
      have q1F : ¬ nw = nActive → (bs nw = bs [97, 99, 116, 105, 118, 101]) = False := fun e => by rw [bs_inj]; exact eq_false e
      have q2T : nw = nFloor → (bs nw = bs [102, 108, 111, 111, 114]) = True := fun e => by rw [bs_inj]; exact eq_true e
      have q2F : ¬ nw = nFloor → (bs nw = bs [102, 108, 111, 111, 114]) = False := fun e => by rw [bs_inj]; exact eq_false e
      have q3T : nw = nCursor → (bs nw = bs [99, 117, 114, 115, 111, 114]) = True := fun e => by rw [bs_inj]; exact eq_true e
      have q3F : ¬ nw = nCursor → (bs nw = bs [99, 117, 114, 115, 111, 114]) = False := fun e => by rw [bs_inj]; exact eq_false e
      have q4T : nw = nIntent → (bs nw = bs [105, 110, 116, 101, 110, 116]) = True := fun e => by rw [bs_inj]; exact eq_true e
      have q4F : ¬ nw = nIntent → (bs nw = bs [105, 110, 116, 101, 110, 116]) = False := fun e => by rw [bs_inj]; exact eq_false e
      have hml : m.l.length = 13 := rfl
      rw [hi1]
      by_cases hA : nw = nActive
      · simp [q1T hA, bs_lit, hsv]
        refine (slots_ok HG).mono ?_
        rintro _ h9' ⟨rfl, rfl⟩
        simp
        refine (sidx_ok gnL vw _ _ (.inr ⟨_, 0, 3, gnL.map sv, .ex, 1, rfl, cellsOf_new _ _ _ _, by simp [gnL], fun _ => by simp [gnL], fun i hi => by simp [hi]⟩) (by simp [gnL])).mono ?_
        rintro _ h9' ⟨rfl, e⟩
        rw [e]; clear e h9'
        have fSX : ∀ o, (HG.push o).cellsOf (h.n + 1) = some (m.l.map cI, .ex, 1) := fun o => by rw [cellsOf_ne (by omega)]; exact fSG
        have hput : aput (m.l.map cI) 9 [.int .i64 (ixW vw gnL)] = ({ m with act := ixW vw gnL } : Mt).l.map cI := rfl
        have sX : ∀ o c', (HG.push o).set (h.n + 1) (.cells c' .ex 1) = ((H2.set (h.n + 1) (.cells c' .ex 1)).push (.cells (gnL.map sv) .ex 1)).push o := fun o c' => by rw [push_set (by omega), sG]
        simp [fSX, apart, mcells, hml, hput, sX, w4, -Int.natCast_add]
        have hPn := PWs_snoc (m2 := ({ m with act := ixW vw gnL } : Mt)) (by unfold PW; rw [hnw, hvw]; rw [if_neg (by rw [hi1]; omega), if_pos hA]) _ _ hP
        rw [← htk] at hPn
        exact ⟨⟨i + 1, ({ m with act := ixW vw gnL } : Mt)⟩, by show W.length - (i + 1) < W.length - i; omega, ⟨by show i + 1 ≤ W.length; omega, hPn⟩, ⟨by show h.n ≤ H2.n; omega, (by show H2.n ≤ H2.n + 1 + 1; omega), (fun b o e => by have h0 := (sB ({ m with act := ixW vw gnL } : Mt) b o e).1; have hq : (H2.set (h.n + 1) (.cells (({ m with act := ixW vw gnL } : Mt).l.map cI) .ex 1)).n = H2.n := rfl; rw [push_m, if_neg (by show ¬ b = H2.n + 1; omega), push_m, if_neg (by omega)]; exact e), sB ({ m with act := ixW vw gnL } : Mt)⟩, .string, .ptr (by show h.n < H2.n; omega), .ptr (by show h.n + 1 < H2.n; omega), .slice (by show h.n + 1 + 1 < H2.n; omega), .int, rfl, .int⟩
      by_cases hF : nw = nFloor
      · have hput : aput (m.l.map cI) 10 [.int .i64 x] = ({ m with fl := x } : Mt).l.map cI := rfl
        simp [q1F hA, q2T hF, bs_lit, hsv, fSG, apart, mcells, hml, hput, sG, w4, -Int.natCast_add]
        have hPn := PWs_snoc (m2 := ({ m with fl := x } : Mt)) (by unfold PW; rw [hnw, hvw]; rw [if_neg (by rw [hi1]; omega), if_neg hA, if_pos hF]; exact ⟨x, hx, rfl⟩) _ _ hP
        rw [← htk] at hPn
        exact ⟨⟨i + 1, ({ m with fl := x } : Mt)⟩, by show W.length - (i + 1) < W.length - i; omega, ⟨by show i + 1 ≤ W.length; omega, hPn⟩, ⟨by show h.n ≤ H2.n; omega, (by show H2.n ≤ H2.n + 1; omega), (fun b o e => by rw [push_m, if_neg (by have := (sB (({ m with fl := x } : Mt)) b o e).1; have hq : (H2.set (h.n + 1) (.cells ((({ m with fl := x } : Mt) : Mt).l.map cI) .ex 1)).n = H2.n := rfl; omega)]; exact e), sB ({ m with fl := x } : Mt)⟩, .string, .ptr (by show h.n < H2.n; omega), .ptr (by show h.n + 1 < H2.n; omega), .slice (by show h.n + 1 + 1 < H2.n; omega), .int, rfl, .int⟩
      by_cases hC : nw = nCursor
      · have hput : aput (m.l.map cI) 11 [.int .i64 x] = ({ m with cu := x } : Mt).l.map cI := rfl
        simp [q1F hA, q2F hF, q3T hC, bs_lit, hsv, fSG, apart, mcells, hml, hput, sG, w4, -Int.natCast_add]
        have hPn := PWs_snoc (m2 := ({ m with cu := x } : Mt)) (by unfold PW; rw [hnw, hvw]; rw [if_neg (by rw [hi1]; omega), if_neg hA, if_neg hF, if_pos hC]; exact ⟨x, hx, rfl⟩) _ _ hP
        rw [← htk] at hPn
        exact ⟨⟨i + 1, ({ m with cu := x } : Mt)⟩, by show W.length - (i + 1) < W.length - i; omega, ⟨by show i + 1 ≤ W.length; omega, hPn⟩, ⟨by show h.n ≤ H2.n; omega, (by show H2.n ≤ H2.n + 1; omega), (fun b o e => by rw [push_m, if_neg (by have := (sB (({ m with cu := x } : Mt)) b o e).1; have hq : (H2.set (h.n + 1) (.cells ((({ m with cu := x } : Mt) : Mt).l.map cI) .ex 1)).n = H2.n := rfl; omega)]; exact e), sB ({ m with cu := x } : Mt)⟩, .string, .ptr (by show h.n < H2.n; omega), .ptr (by show h.n + 1 < H2.n; omega), .slice (by show h.n + 1 + 1 < H2.n; omega), .int, rfl, .int⟩
      by_cases hI : nw = nIntent
      · have hput : aput (m.l.map cI) 12 [.int .i64 x] = ({ m with it := x } : Mt).l.map cI := rfl
        simp [q1F hA, q2F hF, q3F hC, q4T hI, bs_lit, hsv, fSG, apart, mcells, hml, hput, sG, w4, -Int.natCast_add]
        have hPn := PWs_snoc (m2 := ({ m with it := x } : Mt)) (by unfold PW; rw [hnw, hvw]; rw [if_neg (by rw [hi1]; omega), if_neg hA, if_neg hF, if_neg hC, if_pos hI]; exact ⟨x, hx, rfl⟩) _ _ hP
        rw [← htk] at hPn
        exact ⟨⟨i + 1, ({ m with it := x } : Mt)⟩, by show W.length - (i + 1) < W.length - i; omega, ⟨by show i + 1 ≤ W.length; omega, hPn⟩, ⟨by show h.n ≤ H2.n; omega, (by show H2.n ≤ H2.n + 1; omega), (fun b o e => by rw [push_m, if_neg (by have := (sB (({ m with it := x } : Mt)) b o e).1; have hq : (H2.set (h.n + 1) (.cells ((({ m with it := x } : Mt) : Mt).l.map cI) .ex 1)).n = H2.n := rfl; omega)]; exact e), sB ({ m with it := x } : Mt)⟩, .string, .ptr (by show h.n < H2.n; omega), .ptr (by show h.n + 1 < H2.n; omega), .slice (by show h.n + 1 + 1 < H2.n; omega), .int, rfl, .int⟩
      simp [q1F hA, q2F hF, q3F hC, q4F hI, bs_lit, hsv, w4, -Int.natCast_add]
      have hPn := PWs_snoc (m2 := m) (by unfold PW; rw [hnw, hvw]; rw [if_neg (by rw [hi1]; omega), if_neg hA, if_neg hF, if_neg hC, if_neg hI]) _ _ hP
      rw [← htk] at hPn
      exact ⟨⟨i + 1, m⟩, by show W.length - (i + 1) < W.length - i; omega, ⟨by show i + 1 ≤ W.length; omega, hPn⟩, ⟨by show h.n ≤ H2.n; omega, (by show H2.n ≤ HG.n; omega), (fun b o e => kG b o (by rw [← hHS]; exact e)), sB m⟩, .string, .ptr (by show h.n < H2.n; omega), .ptr (by show h.n + 1 < H2.n; omega), .slice (by show h.n + 1 + 1 < H2.n; omega), .int, rfl, .int⟩
  · have hie : i = W.length := by omega
    subst hie
    rw [List.take_of_length_le (Nat.le_refl _)] at hP
    have q13 : acut (m.l.map cI) 0 13 = some (m.l.map cI) := rfl
    have qz13 : acut (zeroM.l.map cI) 0 13 = some (zeroM.l.map cI) := rfl
    have hma : (.agg (m.l.map cI).toArray : Value) = mv m := rfl
    have hmz : (.agg (zeroM.l.map cI).toArray : Value) = mv zeroM := rfl
    have hm13 : ∀ x : Mt, mcells (mv x) = some (x.l.map cI) := fun _ => rfl
    have hp13 : ∀ x : Mt, aput (zeroM.l.map cI) 0 (x.l.map cI) = x.l.map cI := fun _ => rfl
    have hl13 : ∀ x : Mt, (x.l.map cI).length = 13 := fun _ => rfl
    have hl13' : ∀ x : Mt, x.l.length = 13 := fun _ => rfl
    have hfz : afill (zeroM.l.map cI) [] = some (zeroM.l.map cI) := rfl
    have hE : ∀ o, h.Ext (HS.set h.n o) := fun o => ⟨by show h.n ≤ HS.n; omega, fun u ob e => by
      have hun := (hcl u ob e).1
      rw [set_m, if_neg (by omega), ← hHS, set_m, if_neg (by omega)]
      exact x2.m u ob e⟩
    have fR : ∀ c', (HS.set h.n (.cells c' .ex 1)).cellsOf h.n = some (c', .ex, 1) := fun c' => cellsOf_set _ _ _ _ _
    by_cases hs0 : s = []
    · have q : (bs s = bs []) = True := by rw [bs_inj]; exact eq_true hs0
      simp [c21_0, bs_lit, q, hfz, hmz, hm13, h0m, hl13', hp13, fR, qz13, apart]
      exact ⟨⟨zeroM, 6, ⟨rfl, rfl⟩, m, hP, .inl ⟨.inl hs0, rfl, rfl⟩⟩, hE _⟩
    · have q : (bs s = bs []) = False := by rw [bs_inj]; exact eq_false hs0
      simp [c21_0, bs_lit, q, hSm, q13, hma, apart]
      refine (mtText_ok m HS).mono ?_
      rintro _ h9' ⟨rfl, e⟩
      rw [e]; clear e h9'
      by_cases hm : mtText m = s
      · have q5 : (bs (mtText m) = bs s) = True := by rw [bs_inj]; exact eq_true hm
        simp [hsv, q5, hSm, q13, hma, hm13, h0m, hl13', hp13, fR, apart]
        exact ⟨⟨m, 0, ⟨rfl, rfl⟩, m, hP, .inr ⟨⟨hs0, hm⟩, rfl, rfl⟩⟩, hE _⟩
      · have q5 : (bs (mtText m) = bs s) = False := by rw [bs_inj]; exact eq_false hm
        simp [hsv, q5, hfz, hmz, hm13, h0m, hl13', hp13, fR, qz13, apart]
        exact ⟨⟨zeroM, 6, ⟨rfl, rfl⟩, m, hP, .inl ⟨.inr hm, rfl, rfl⟩⟩, hE _⟩

def c4_0 : AC := .seq (.seq (.ops [⟨some 11,none,.mv (.tmp 4)⟩,⟨some 12,none,.bin .leq (.tmp 11) (.const (.int .i64 6))⟩]) (.cond (.tmp 12) .skip (.exit 0))) (.seq (.block 1 (.seq (.ops [⟨some 15,none,.mv (.tmp 4)⟩,⟨some 16,none,.call 18 [.tmp 15]⟩,⟨some 17,none,.bin .eql (.tmp 16) (.const (.string ⟨⟨[]⟩⟩))⟩,⟨some 18,none,.mv (.tmp 4)⟩,⟨some 19,none,.bin .lss (.tmp 18) (.const (.int .i64 0))⟩,⟨some 20,none,.mv (.tmp 19)⟩,⟨some 21,some (20,false),.mv (.tmp 4)⟩,⟨some 22,some (20,false),.bin .gtr (.tmp 21) (.const (.int .i64 5))⟩,⟨some 23,none,.pick (.tmp 20) (.const (.bool true)) (.tmp 22)⟩,⟨some 24,none,.eqv true .bool (.tmp 17) (.tmp 23)⟩]) (.cond (.tmp 24) (.seq (.ops [⟨some 2,none,.mv (.const (.bool false))⟩]) .ret) .skip))) (.ops [⟨some 13,none,.mv (.tmp 4)⟩,⟨some 14,none,.bin .add (.tmp 13) (.const (.int .i64 1))⟩,⟨some 4,none,.mv (.tmp 14)⟩]))
def c4 : AC := .seq (.ops [⟨some 1,none,.box (.tmp 0)⟩,⟨some 2,none,.mv (.const (.bool false))⟩]) (.seq (.seq (.ops [⟨some 7,none,.call 16 []⟩,⟨some 8,none,.un .not (.tmp 7)⟩]) (.cond (.tmp 8) (.seq (.ops [⟨some 2,none,.mv (.const (.bool false))⟩]) .ret) .skip)) (.seq (.ops [⟨some 9,none,.load (some 13) (.tmp 1)⟩,⟨some 10,none,.call 17 [.tmp 9]⟩,⟨some 3,none,.mv (.tmp 10)⟩]) (.seq (.seq (.ops [⟨some 4,none,.mv (.const (.int .i64 (-1)))⟩]) (.block 0 (.loop c4_0))) (.seq (.seq (.ops [⟨some 25,none,.load (some 13) (.tmp 1)⟩,⟨some 26,none,.call 20 [.tmp 25]⟩,⟨some 27,none,.call 19 [.tmp 26]⟩,⟨some 28,none,.un .not (.tmp 27)⟩]) (.cond (.tmp 28) (.seq (.ops [⟨some 29,none,.mv (.tmp 3)⟩,⟨some 30,none,.bin .eql (.tmp 29) (.const (.string ⟨⟨[]⟩⟩))⟩,⟨some 2,none,.mv (.tmp 30)⟩]) .ret) .skip)) (.seq (.ops [⟨some 32,none,.mv (.tmp 3)⟩,⟨some 33,none,.call 21 [.tmp 32]⟩,⟨some 31,none,.mv (.tmp 33)⟩,⟨some 34,none,.extr (.tmp 31) 0⟩,⟨some 35,none,.extr (.tmp 31) 1⟩,⟨some 5,none,.alloc [.int .i64 0,.int .i64 0,.int .i64 0,.int .i64 0,.int .i64 0,.int .i64 0,.int .i64 0,.int .i64 0,.int .i64 0,.int .i64 0,.int .i64 0,.int .i64 0,.int .i64 0]⟩,⟨none,none,.store 13 (.tmp 5) (.tmp 34)⟩,⟨some 6,none,.mv (.tmp 35)⟩]) (.seq (.ops [⟨some 36,none,.mv (.tmp 3)⟩,⟨some 37,none,.load (some 13) (.tmp 1)⟩,⟨some 38,none,.call 20 [.tmp 37]⟩,⟨some 39,none,.call 22 [.tmp 38]⟩,⟨some 40,none,.bin .eql (.tmp 36) (.tmp 39)⟩,⟨some 41,none,.mv (.tmp 40)⟩,⟨some 42,some (41,true),.load (some 13) (.tmp 5)⟩,⟨some 43,some (41,true),.load (some 13) (.tmp 1)⟩,⟨some 44,some (41,true),.eqa false [.i,.i,.i,.i,.i,.i,.i,.i,.i,.i,.i,.i,.i] (.tmp 42) (.tmp 43)⟩,⟨some 45,none,.pick (.tmp 41) (.tmp 44) (.const (.bool false))⟩,⟨some 46,none,.mv (.tmp 45)⟩,⟨some 47,some (46,true),.mv (.tmp 6)⟩,⟨some 48,some (46,true),.bin .eql (.tmp 47) (.const (.int .i64 0))⟩,⟨some 49,none,.pick (.tmp 46) (.tmp 48) (.const (.bool false))⟩,⟨some 2,none,.mv (.tmp 49)⟩]) .ret))))))
theorem k4 : compF Tryz.prog Tryz.f4 = some (c4, [2]) := by kernel_rfl
theorem n4 : Tryz.f4.ntmps = 50 := by kernel_rfl
def c5 : AC := .seq (.ops [⟨some 2,none,.mv (.const (.bool false))⟩]) (.seq (.seq (.ops [⟨some 5,none,.call 16 []⟩,⟨some 6,none,.un .not (.tmp 5)⟩]) (.cond (.tmp 6) (.seq (.ops [⟨some 2,none,.mv (.const (.bool false))⟩]) .ret) .skip)) (.seq (.seq (.ops [⟨some 7,none,.mv (.tmp 0)⟩,⟨some 8,none,.lenS true (.tmp 7)⟩,⟨some 9,none,.bin .gtr (.tmp 8) (.const (.int .i64 300))⟩]) (.cond (.tmp 9) (.seq (.ops [⟨some 2,none,.mv (.const (.bool true))⟩]) .ret) .skip)) (.seq (.ops [⟨some 11,none,.mv (.tmp 0)⟩,⟨some 12,none,.call 21 [.tmp 11]⟩,⟨some 10,none,.mv (.tmp 12)⟩,⟨some 13,none,.extr (.tmp 10) 0⟩,⟨some 14,none,.extr (.tmp 10) 1⟩,⟨some 3,none,.alloc [.int .i64 0,.int .i64 0,.int .i64 0,.int .i64 0,.int .i64 0,.int .i64 0,.int .i64 0,.int .i64 0,.int .i64 0,.int .i64 0,.int .i64 0,.int .i64 0,.int .i64 0]⟩,⟨none,none,.store 13 (.tmp 3) (.tmp 13)⟩,⟨some 4,none,.mv (.tmp 14)⟩]) (.seq (.seq (.ops [⟨some 15,none,.mv (.tmp 4)⟩,⟨some 16,none,.bin .neq (.tmp 15) (.const (.int .i64 0))⟩]) (.cond (.tmp 16) (.seq (.ops [⟨some 17,none,.mv (.tmp 4)⟩,⟨some 18,none,.bin .eql (.tmp 17) (.const (.int .i64 6))⟩,⟨some 19,none,.mv (.tmp 18)⟩,⟨some 20,some (19,true),.load (some 13) (.tmp 3)⟩,⟨some 21,some (19,true),.build [.int .i64 0,.int .i64 0,.int .i64 0,.int .i64 0,.int .i64 0,.int .i64 0,.int .i64 0,.int .i64 0,.int .i64 0,.int .i64 0,.int .i64 0,.int .i64 0,.int .i64 0] []⟩,⟨some 22,some (19,true),.eqa false [.i,.i,.i,.i,.i,.i,.i,.i,.i,.i,.i,.i,.i] (.tmp 20) (.tmp 21)⟩,⟨some 23,none,.pick (.tmp 19) (.tmp 22) (.const (.bool false))⟩,⟨some 2,none,.mv (.tmp 23)⟩]) .ret) .skip)) (.seq (.ops [⟨some 24,none,.load (some 13) (.tmp 3)⟩,⟨some 25,none,.call 20 [.tmp 24]⟩,⟨some 26,none,.call 19 [.tmp 25]⟩,⟨some 27,none,.mv (.tmp 26)⟩,⟨some 28,some (27,true),.load (some 13) (.tmp 3)⟩,⟨some 29,some (27,true),.call 20 [.tmp 28]⟩,⟨some 30,some (27,true),.call 22 [.tmp 29]⟩,⟨some 31,some (27,true),.mv (.tmp 0)⟩,⟨some 32,some (27,true),.bin .eql (.tmp 30) (.tmp 31)⟩,⟨some 33,none,.pick (.tmp 27) (.tmp 32) (.const (.bool false))⟩,⟨some 2,none,.mv (.tmp 33)⟩]) .ret)))))
theorem k5 : compF Tryz.prog Tryz.f5 = some (c5, [2]) := by kernel_rfl
theorem n5 : Tryz.f5.ntmps = 34 := by kernel_rfl
variable [Nonempty GA]
theorem cut_at {c : UInt8} : ∀ {a : List UInt8} {b : List UInt8}, c ∉ a → cutB c (a ++ c :: b) = (a, b, true) := by
  intro a b h
  have hi : idx1 c (a ++ c :: b) = some a.length := by
    induction a with
    | nil => simp [idx1]
    | cons x r ih =>
      have hx : x ≠ c := fun e => h (by simp [e])
      have := ih (fun e => h (by simp [e]))
      simp [idx1, hx, this]
  unfold cutB
  rw [hi]
  simp
theorem cut_no {c : UInt8} {a : List UInt8} (h : c ∉ a) : cutB c a = (a, [], false) := by
  unfold cutB
  cases hi : idx1 c a with
  | none => rfl
  | some i =>
    have : c ∈ a := by
      clear h
      induction a generalizing i with
      | nil => simp [idx1] at hi
      | cons x r ih =>
        by_cases q : x = c
        · simp [q]
        · simp only [idx1, if_neg q, Option.map_eq_some_iff] at hi
          obtain ⟨j, hj, _⟩ := hi
          exact List.mem_cons_of_mem _ (ih j hj)
    exact absurd this h
theorem dg_range {n : Int} (h0 : 0 ≤ n) : ∀ c ∈ itoaB n, 48 ≤ c.toNat ∧ c.toNat ≤ 57 := by
  unfold itoaB
  rw [if_neg (by omega)]
  exact fun c hc => dec_dig _ c hc
theorem pt_not {mk : List UInt8} {n : Int} (h0 : 0 ≤ n) {c : UInt8} (hc : c.toNat < 48 ∨ 57 < c.toNat) (hm : c ∉ mk) : c ∉ pt mk n := by
  unfold pt
  split
  · simp
  · intro h
    rcases List.mem_append.1 h with h | h
    · exact hm h
    · have := dg_range h0 c h; omega
theorem an_pt {l : List UInt8} {mk : List UInt8} {c : UInt8} {n x : Int} (h0 : 0 ≤ n) (h1 : n ≤ 281474976710655) (hx : AN (if n = 0 then [] else itoaB n) x) : x = n := by
  by_cases q : n = 0
  · rw [if_pos q] at hx
    rw [q]; exact hx.2 rfl
  · rw [if_neg q] at hx
    exact hx.1 n (by omega) (by omega) rfl
theorem cut_pt {c : UInt8} {a : List UInt8} {n : Int} (h : c ∉ a) : (cutB c (a ++ pt [c] n)).1 = a ∧ (cutB c (a ++ pt [c] n)).2.1 = (if n = 0 then [] else itoaB n) := by
  unfold pt
  by_cases q : n = 0
  · rw [if_pos q, if_pos q, List.append_nil, cut_no h]
    exact ⟨rfl, rfl⟩
  · rw [if_neg q, if_neg q]
    have := cut_at (b := itoaB n) h
    simp only [List.cons_append, List.nil_append]
    rw [this]
    exact ⟨rfl, rfl⟩
theorem st_not (n : Int) : (58 : UInt8) ∉ stW n ∧ (64 : UInt8) ∉ stW n ∧ (61 : UInt8) ∉ stW n ∧ (32 : UInt8) ∉ stW n := by
  unfold stW
  split
  · obtain ⟨k, hk⟩ : ∃ k, n.toNat = k := ⟨_, rfl⟩
    have : k < 6 := by omega
    rw [hk]
    match k, this with
    | 0, _ => decide
    | 1, _ => decide
    | 2, _ => decide
    | 3, _ => decide
    | 4, _ => decide
    | 5, _ => decide
  · simp
theorem ix_st {n : Int} (h0 : 0 ≤ n) (h5 : n ≤ 5) : ixW (stW n) stL = n := by
  obtain ⟨k, rfl⟩ : ∃ k : Nat, n = (k : Int) := ⟨n.toNat, by omega⟩
  have : k < 6 := by omega
  match k, this with
  | 0, _ => decide
  | 1, _ => decide
  | 2, _ => decide
  | 3, _ => decide
  | 4, _ => decide
  | 5, _ => decide
theorem slw_of {s x : S3} (h : SlotP s) (hx : SLw (stW s.st ++ pt [58] s.ve ++ pt [64] s.ba) x) : x = s := by
  obtain ⟨⟨a1, a1'⟩, ⟨a2, a2'⟩, ⟨a3, a3'⟩, _⟩ := h
  obtain ⟨h1, h2, h3⟩ := hx
  have n64 : (64 : UInt8) ∉ stW s.st ++ pt [58] s.ve := fun q => by
    rcases List.mem_append.1 q with q | q
    · exact (st_not s.st).2.1 q
    · exact pt_not a2 (c := 64) (by decide) (by decide) q
  have c1 := cut_pt (n := s.ba) n64
  rw [c1.1] at h1 h2
  rw [c1.2] at h3
  have c2 := cut_pt (n := s.ve) (st_not s.st).1
  rw [c2.1] at h1
  rw [c2.2] at h2
  rw [ix_st a1 a1'] at h1
  have e2 := an_pt (l := []) (mk := []) (c := 0) a2 a2' h2
  have e3 := an_pt (l := []) (mk := []) (c := 0) a3 (by omega) h3
  obtain ⟨x1, x2, x3⟩ := x
  obtain ⟨s1, s2, s3⟩ := s
  dsimp only at *
  rw [h1, e2, e3]
theorem split_joinM (c : UInt8) : ∀ (r : List (List UInt8)) (a : List UInt8), c ∉ a → (∀ x ∈ r, c ∉ x) → splitB c (joinB [c] (a :: r)) = a :: r
  | [], a, ha, _ => by
    show splitB c (a ++ []) = _
    rw [List.append_nil, split_none ha]
  | b :: r, a, ha, hr => by
    have ih := split_joinM c r b (hr b (by simp)) (fun x hx => hr x (by simp [hx]))
    have : joinB [c] (a :: b :: r) = a ++ c :: joinB [c] (b :: r) := by simp [joinB]
    rw [this, split_at ha, ih]
theorem words_eq (m : Mt) : (headM m ++ tailM m).filter neB = [wordM m 0, wordM m 1, wordM m 2, aActive ++ gnL.getD m.act.toNat []] ++ ((if m.fl = 0 then [] else [pt aFloor m.fl]) ++ ((if m.cu = 0 then [] else [pt aCursor m.cu]) ++ (if m.it = 0 then [] else [pt aIntent m.it]))) := by
  have ha : neB (aActive ++ gnL.getD m.act.toNat []) = true := by simp [neB, aActive]
  have h1 := pt_ne (mk := aFloor) (by simp [aFloor]) m.fl
  have h2 := pt_ne (mk := aCursor) (by simp [aCursor]) m.cu
  have h3 := pt_ne (mk := aIntent) (by simp [aIntent]) m.it
  simp only [headM, tailM, List.cons_append, List.nil_append, List.filter_cons, List.filter_nil, wordM_ne, ha, h1, h2, h3, if_true]
  by_cases f : m.fl = 0 <;> by_cases c : m.cu = 0 <;> by_cases t : m.it = 0 <;> simp [f, c, t]
theorem gn_not (i : Nat) (h : i < 3) : (61 : UInt8) ∉ gnL.getD i [] ∧ (32 : UInt8) ∉ gnL.getD i [] ∧ ixW (gnL.getD i []) gnL = (i : Int) := by
  match i, h with
  | 0, _ => exact ⟨by decide, by decide, by decide⟩
  | 1, _ => exact ⟨by decide, by decide, by decide⟩
  | 2, _ => exact ⟨by decide, by decide, by decide⟩
theorem stepW {m a b : Mt} {i : Nat} (hi : i < 3) (hs : SlotP (m.get i)) (h : PW (wordM m i) a b) : b = a.set i (m.get i) := by
  obtain ⟨g1, g2, g3⟩ := gn_not i hi
  have hc : cutB 61 (wordM m i) = (gnL.getD i [], stW (m.get i).st ++ pt [58] (m.get i).ve ++ pt [64] (m.get i).ba, true) := by
    have := cut_at (b := stW (m.get i).st ++ pt [58] (m.get i).ve ++ pt [64] (m.get i).ba) g1
    unfold wordM
    rw [← this]
    simp
  unfold PW at h
  rw [hc] at h
  dsimp only at h
  rw [g3, if_pos (by omega)] at h
  obtain ⟨x, hx, rfl⟩ := h
  rw [slw_of hs hx]
theorem stepA {a b : Mt} {k : Nat} (hk : k < 3) (h : PW (aActive ++ gnL.getD k []) a b) : b = { a with act := (k : Int) } := by
  obtain ⟨g1, g2, g3⟩ := gn_not k hk
  have hc : cutB 61 (aActive ++ gnL.getD k []) = (nActive, gnL.getD k [], true) := cut_at (a := nActive) (by decide)
  unfold PW at h
  rw [hc] at h
  dsimp only at h
  rw [if_neg (by decide), if_pos rfl, g3] at h
  exact h
theorem stepF {a b : Mt} {n : Int} (hn : n ≠ 0) (h0 : 0 ≤ n) (h1 : n ≤ 281474976710655) (h : PW (pt aFloor n) a b) : b = { a with fl := n } := by
  have hc : cutB 61 (pt aFloor n) = (nFloor, itoaB n, true) := by unfold pt; rw [if_neg hn]; exact cut_at (a := nFloor) (by decide)
  unfold PW at h
  rw [hc] at h
  dsimp only at h
  rw [if_neg (by decide), if_neg (by decide), if_pos rfl] at h
  obtain ⟨x, hx, rfl⟩ := h
  rw [hx.1 n (by omega) (by omega) rfl]
theorem stepC {a b : Mt} {n : Int} (hn : n ≠ 0) (h0 : 0 ≤ n) (h1 : n ≤ 281474976710655) (h : PW (pt aCursor n) a b) : b = { a with cu := n } := by
  have hc : cutB 61 (pt aCursor n) = (nCursor, itoaB n, true) := by unfold pt; rw [if_neg hn]; exact cut_at (a := nCursor) (by decide)
  unfold PW at h
  rw [hc] at h
  dsimp only at h
  rw [if_neg (by decide), if_neg (by decide), if_neg (by decide), if_pos rfl] at h
  obtain ⟨x, hx, rfl⟩ := h
  rw [hx.1 n (by omega) (by omega) rfl]
theorem stepI {a b : Mt} {n : Int} (hn : n ≠ 0) (h0 : 0 ≤ n) (h1 : n ≤ 281474976710655) (h : PW (pt aIntent n) a b) : b = { a with it := n } := by
  have hc : cutB 61 (pt aIntent n) = (nIntent, itoaB n, true) := by unfold pt; rw [if_neg hn]; exact cut_at (a := nIntent) (by decide)
  unfold PW at h
  rw [hc] at h
  dsimp only at h
  rw [if_neg (by decide), if_neg (by decide), if_neg (by decide), if_neg (by decide), if_pos rfl] at h
  obtain ⟨x, hx, rfl⟩ := h
  rw [hx.1 n (by omega) (by omega) rfl]
theorem word_no32 {m : Mt} {i : Nat} (hi : i < 3) (hs : SlotP (m.get i)) : (32 : UInt8) ∉ wordM m i := by
  intro h
  unfold wordM at h
  simp only [List.mem_append] at h
  rcases h with (((h | h) | h) | h) | h
  · exact (gn_not i hi).2.1 h
  · revert h; decide
  · exact (st_not _).2.2.2 h
  · exact pt_not hs.2.1.1 (by decide) (by decide) h
  · exact pt_not hs.2.2.1.1 (by decide) (by decide) h
theorem right_parts {m : Mt} (hR : RightP m) : (∀ i : Nat, i < 3 → SlotP (m.get i)) ∧ (∃ k : Nat, k < 3 ∧ m.act = (k : Int)) ∧ (0 ≤ m.fl ∧ m.fl ≤ 281474976710655) ∧ (0 ≤ m.cu ∧ m.cu ≤ 281474976710655) ∧ (0 ≤ m.it ∧ m.it ≤ 281474976710655) := by
  have hfit := hR.2.1
  rw [Bool.or_eq_false_iff, Bool.or_eq_false_iff] at hfit
  refine ⟨fun i hi => ?_, ⟨m.act.toNat, by have := hR.1; omega, by have := hR.1; omega⟩, (unfit_iff _).1 hfit.1.1, (unfit_iff _).1 hfit.1.2, (unfit_iff _).1 hfit.2⟩
  obtain ⟨_, _, _, ⟨a, _⟩, ⟨b, _⟩, ⟨c, _⟩, _⟩ := hR
  match i, hi with
  | 0, _ => exact a
  | 1, _ => exact b
  | 2, _ => exact c
theorem uniqM {m m' : Mt} (hR : RightP m) (h : PWs (splitB 32 (mtText m)) zeroM m') : m' = m := by
  obtain ⟨hs, ⟨k, hk3, hk⟩, hf, hc, ht⟩ := right_parts hR
  have hT : mtText m = joinB [32] ((headM m ++ tailM m).filter neB) := if_pos hR
  have hg : m.act.toNat = k := by rw [hk]; rfl
  have hsp : splitB 32 (mtText m) = (headM m ++ tailM m).filter neB := by
    rw [hT, words_eq]
    refine split_joinM 32 _ _ (word_no32 (by omega) (hs 0 (by omega))) fun x hx => ?_
    have hx2 : x ∈ [wordM m 1, wordM m 2, aActive ++ gnL.getD m.act.toNat []] ++ ((if m.fl = 0 then [] else [pt aFloor m.fl]) ++ ((if m.cu = 0 then [] else [pt aCursor m.cu]) ++ (if m.it = 0 then [] else [pt aIntent m.it]))) := hx
    clear hx
    rcases List.mem_append.1 hx2 with hx | hx
    · simp only [List.mem_cons, List.not_mem_nil, or_false] at hx
      rcases hx with rfl | rfl | rfl
      · exact word_no32 (by omega) (hs 1 (by omega))
      · exact word_no32 (by omega) (hs 2 (by omega))
      · rw [hg]; intro q
        rcases List.mem_append.1 q with q | q
        · revert q; decide
        · exact (gn_not k hk3).2.1 q
    rcases List.mem_append.1 hx with hx | hx
    · split at hx
      · cases hx
      · rw [List.mem_singleton.1 hx]; exact pt_not hf.1 (by decide) (by decide)
    rcases List.mem_append.1 hx with hx | hx
    · split at hx
      · cases hx
      · rw [List.mem_singleton.1 hx]; exact pt_not hc.1 (by decide) (by decide)
    · split at hx
      · cases hx
      · rw [List.mem_singleton.1 hx]; exact pt_not ht.1 (by decide) (by decide)
  rw [hsp, words_eq, hg] at h
  obtain ⟨a1, h1, a2, h2, a3, h3, a4, h4, h⟩ := h
  rw [stepW (by omega) (hs 0 (by omega)) h1] at h2
  rw [stepW (by omega) (hs 1 (by omega)) h2] at h3
  rw [stepW (by omega) (hs 2 (by omega)) h3] at h4
  rw [stepA hk3 h4] at h
  have he : ({ ((zeroM.set (0 : Nat) (m.get (0 : Nat))).set (1 : Nat) (m.get (1 : Nat))).set (2 : Nat) (m.get (2 : Nat)) with act := (k : Int) } : Mt) = ⟨m.s0, m.s1, m.s2, m.act, 0, 0, 0⟩ := by rw [hk]; rfl
  rw [he] at h
  have hm : m = ⟨m.s0, m.s1, m.s2, m.act, m.fl, m.cu, m.it⟩ := rfl
  by_cases f : m.fl = 0 <;> by_cases c : m.cu = 0 <;> by_cases t : m.it = 0 <;> simp only [f, c, t, if_true, if_false, List.nil_append, List.append_nil, List.cons_append, PWs] at h
  · rw [h, hm]; simp [f, c, t]
  · obtain ⟨b1, q1, rfl⟩ := h; rw [stepI t ht.1 ht.2 q1, hm]; simp [f, c]
  · obtain ⟨b1, q1, rfl⟩ := h; rw [stepC c hc.1 hc.2 q1, hm]; simp [f, t]
  · obtain ⟨b1, q1, b2, q2, rfl⟩ := h; rw [stepC c hc.1 hc.2 q1] at q2; rw [stepI t ht.1 ht.2 q2, hm]; simp [f]
  · obtain ⟨b1, q1, rfl⟩ := h; rw [stepF f hf.1 hf.2 q1, hm]; simp [c, t]
  · obtain ⟨b1, q1, b2, q2, rfl⟩ := h; rw [stepF f hf.1 hf.2 q1] at q2; rw [stepI t ht.1 ht.2 q2, hm]; simp [c]
  · obtain ⟨b1, q1, b2, q2, rfl⟩ := h; rw [stepF f hf.1 hf.2 q1] at q2; rw [stepC c hc.1 hc.2 q2, hm]; simp [t]
  · obtain ⟨b1, q1, b2, q2, b3, q3, rfl⟩ := h; rw [stepF f hf.1 hf.2 q1] at q2; rw [stepC c hc.1 hc.2 q2] at q3; rw [stepI t ht.1 ht.2 q3, hm]

variable [Nonempty GA]
theorem eq13M (m x : Mt) : aeqL [.i, .i, .i, .i, .i, .i, .i, .i, .i, .i, .i, .i, .i] (m.l.map cI) (m.l.map cI) = some true := by simp [aeqL, aeqC, Mt.l]
theorem mtText_ne {m : Mt} (hR : RightP m) : mtText m ≠ [] := by
  have hT : mtText m = joinB [32] ((headM m ++ tailM m).filter neB) := if_pos hR
  rw [hT, words_eq]
  simp [joinB, wordM]
theorem catM_len {m : Mt} (hs : ∀ i : Nat, i < 3 → SlotP (m.get i)) : ∀ i, i ≤ 3 → (catM m i).length ≤ 61 * i
  | 0, _ => by simp [catM]
  | i + 1, h => by
    have ih := catM_len hs i (by omega)
    obtain ⟨_, a2, a3, _⟩ := hs i (by omega)
    have := wordM_len m i (by omega) a2.1 a2.2 a3.1 (by omega)
    show (catM m i ++ (wordM m i ++ [32])).length ≤ _
    rw [List.length_append, List.length_append]
    simp; omega
theorem mtText_len {m : Mt} (hR : RightP m) : (mtText m).length ≤ 100000 := by
  rw [← rText_eq hR]
  obtain ⟨hs, ⟨k, hk3, hk⟩, hf, hc, ht⟩ := right_parts hR
  have h0 := catM_len hs 3 (by omega)
  have h1 := pt_len (32 :: aFloor) m.fl hf.1 hf.2
  have h2 := pt_len (32 :: aCursor) m.cu hc.1 hc.2
  have h3 := pt_len (32 :: aIntent) m.it ht.1 ht.2
  have h4 := (gnL_getD k hk3).2
  have hg : m.act.toNat = k := by rw [hk]; rfl
  have e0 : aActive.length = 7 := rfl
  have e1 : (32 :: aFloor).length = 7 := rfl
  have e2 : (32 :: aCursor).length = 8 := rfl
  have e3 : (32 :: aIntent).length = 8 := rfl
  unfold rText
  rw [hg]
  simp only [List.length_append]
  omega
set_option maxHeartbeats 2000000
theorem metaParses_law (s : List UInt8) (h : Heap) : ACalls Tryz.prog 5 [.string (bs s)] h fun v _ => v = .bool true ∧ True := by
  refine acalls_of mix Tryz.func5 k5 n5 (by simp) fun hcl hb => ?_
  have hsv : ∀ l, sv l = .string (bs l) := fun _ => rfl
  have hz13 : ([.int .i64 0, .int .i64 0, .int .i64 0, .int .i64 0, .int .i64 0, .int .i64 0, .int .i64 0, .int .i64 0, .int .i64 0, .int .i64 0, .int .i64 0, .int .i64 0, .int .i64 0] : List Value) = zeroM.l.map cI := rfl
  have hm13 : ∀ x : Mt, mcells (mv x) = some (x.l.map cI) := fun _ => rfl
  have hp13 : ∀ x : Mt, aput (zeroM.l.map cI) 0 (x.l.map cI) = x.l.map cI := fun _ => rfl
  have hl13 : ∀ x : Mt, x.l.length = 13 := fun _ => rfl
  have hfz : afill (zeroM.l.map cI) [] = some (zeroM.l.map cI) := rfl
  have q13 : ∀ x : Mt, acut (x.l.map cI) 0 13 = some (x.l.map cI) := fun _ => rfl
  have hma : ∀ x : Mt, (.agg (x.l.map cI).toArray : Value) = mv x := fun _ => rfl
  have fz := cellsOf_new h (zeroM.l.map cI) .ex 1
  simp only [c5, s_seq, s_ops]
  simp [hz13, bs_lit]
  refine (mawake_ok h).mono ?_
  rintro _ h9' ⟨rfl, e⟩
  rw [e]; clear e h9'
  by_cases h3 : 300 < s.length
  · have h3' : (300 : Int) < (s.length : Int) := by omega
    simp [aun, bs_size, h3']
  have h3' : ¬ (300 : Int) < (s.length : Int) := by omega
  simp [aun, bs_size, h3']
  refine (mparse_ok s (by omega) h).mono ?_
  rintro _ h9' ⟨⟨M, e, rfl, m, _, hcase⟩, e'⟩
  rw [e']; clear e' h9'
  have fM := fun M : Mt => cellsOf_new h (M.l.map cI) .ex 1
  rcases hcase with ⟨_, rfl, rfl⟩ | ⟨⟨hs0, hms⟩, rfl, rfl⟩
  · simp [fz, hm13, hl13, hp13, set_push, fM, q13, hfz, apart, eq13M zeroM zeroM]
  · simp [fz, hm13, hl13, hp13, set_push, fM, q13, hma, hfz, apart]
    have hR : RightP M := by
      by_cases q : RightP M
      · exact q
      · have : mtText M = [] := if_neg q
        rw [this] at hms
        exact absurd hms.symm hs0
    have f1 := fM M
    generalize h.push (.cells (M.l.map cI) .ex 1) = H at *
    refine (plain_ok M H).mono ?_
    rintro _ h9' ⟨rfl, e⟩
    rw [e]; clear e h9'
    simp
    refine (refRightM_ok M H).mono ?_
    rintro _ h9' ⟨rfl, e⟩
    rw [e]; clear e h9'
    simp [hR, f1, q13, hma, apart]
    refine (plain_ok M H).mono ?_
    rintro _ h9' ⟨rfl, e⟩
    rw [e]; clear e h9'
    simp
    refine (rtext_ok M hR H).mono ?_
    rintro _ h9' ⟨rfl, e⟩
    rw [e]; clear e h9'
    simp [hsv, hms]
theorem metaTexts_law (m : Mt) (h : Heap) : ACalls Tryz.prog 4 [mv m] h fun v _ => v = .bool true ∧ True := by
  refine acalls_of mix Tryz.func4 k4 n4 (by simp) fun hcl hb => ?_
  have hsv : ∀ l, sv l = .string (bs l) := fun _ => rfl
  have hz13 : ([.int .i64 0, .int .i64 0, .int .i64 0, .int .i64 0, .int .i64 0, .int .i64 0, .int .i64 0, .int .i64 0, .int .i64 0, .int .i64 0, .int .i64 0, .int .i64 0, .int .i64 0] : List Value) = zeroM.l.map cI := rfl
  have hm13 : ∀ x : Mt, mcells (mv x) = some (x.l.map cI) := fun _ => rfl
  have hp13 : ∀ x : Mt, aput (zeroM.l.map cI) 0 (x.l.map cI) = x.l.map cI := fun _ => rfl
  have hl13 : ∀ x : Mt, x.l.length = 13 := fun _ => rfl
  have q13 : ∀ x : Mt, acut (x.l.map cI) 0 13 = some (x.l.map cI) := fun _ => rfl
  have hma : ∀ x : Mt, (.agg (x.l.map cI).toArray : Value) = mv x := fun _ => rfl
  have f0 := cellsOf_new h (m.l.map cI) .ex 1
  have c0 : (h.push (.cells (m.l.map cI) .ex 1)).Closed := closed_push hcl (fun x hx => by obtain ⟨y, _, rfl⟩ := List.mem_map.1 hx; exact .int)
  have n0 : (h.push (.cells (m.l.map cI) .ex 1)).n = h.n + 1 := rfl
  simp only [c4, s_seq, s_ops]
  simp [hz13, bs_lit, hm13]
  generalize h.push (.cells (m.l.map cI) .ex 1) = H at *
  refine (mawake_ok H).mono ?_
  rintro _ h9' ⟨rfl, e⟩
  rw [e]; clear e h9'
  simp [aun, f0, q13, hma, apart]
  refine (mtText_ok m H).mono ?_
  rintro _ h9' ⟨rfl, e⟩
  rw [e]; clear e h9'
  obtain ⟨T, hT⟩ : ∃ T, mtText m = T := ⟨_, rfl⟩
  rw [hT]
  simp [hsv]
  refine awp_loop_of (α := Int) (fun n => -1 ≤ n ∧ n ≤ 7) (fun n => [(1, .pointer (some ⟨h.n, 0, none⟩)), (3, .string (bs T)), (4, .int .i64 n)]) (fun _ => H) (fun n => (7 - n).toNat) (-1)
    ⟨by omega, by omega⟩ ⟨by omega, Nat.le_refl _, fun _ _ e => e, c0⟩ (by simp; exact ⟨.ptr (by show h.n < H.n; omega), .string, .int⟩) ?_
  rintro n ⟨hn1, hn7⟩
  by_cases hn6 : n ≤ 6
  · have w4 : IntKind.i64.wrap (n + 1) = n + 1 := i64_small (by omega) (by omega)
    simp [c4_0, hn6]
    refine (stateM_ok n H).mono ?_
    rintro _ h9' ⟨rfl, e⟩
    rw [e]; clear e h9'
    have hbb : ∀ a : Bool, aeq .bool (.bool a) (.bool a) = some true := fun a => by cases a <;> rfl
    by_cases hn0 : n < 0
    · have hw : stW n = [] := if_neg (by omega)
      simp [hsv, hw, bs_lit, hn0, hbb, w4]
      exact ⟨n + 1, by omega, ⟨by omega, by omega⟩, ⟨by omega, Nat.le_refl _, fun _ _ e => e, c0⟩, .ptr (by show h.n < H.n; omega), .string, rfl, .int⟩
    by_cases hn5 : 5 < n
    · have hw : stW n = [] := if_neg (by omega)
      simp [hsv, hw, bs_lit, hn0, hn5, hbb, w4]
      exact ⟨n + 1, by omega, ⟨by omega, by omega⟩, ⟨by omega, Nat.le_refl _, fun _ _ e => e, c0⟩, .ptr (by show h.n < H.n; omega), .string, rfl, .int⟩
    have hq : (bs (stW n) = bs []) = False := by
      rw [bs_inj]
      refine eq_false fun q => ?_
      have := ix_st (n := n) (by omega) (by omega)
      rw [q] at this
      have h0 : ixW [] stL = -1 := by decide
      omega
    simp [hsv, hq, bs_lit, hn0, hn5, hbb, w4]
    exact ⟨n + 1, by omega, ⟨by omega, by omega⟩, ⟨by omega, Nat.le_refl _, fun _ _ e => e, c0⟩, .ptr (by show h.n < H.n; omega), .string, rfl, .int⟩
  · have hne : n = 7 := by omega
    subst hne
    simp [c4_0, f0, q13, hma, apart]
    refine (plain_ok m H).mono ?_
    rintro _ h9' ⟨rfl, e⟩
    rw [e]; clear e h9'
    simp
    refine (refRightM_ok m H).mono ?_
    rintro _ h9' ⟨rfl, e⟩
    rw [e]; clear e h9'
    by_cases hR : RightP m
    case neg =>
      have hT0 : T = [] := by rw [← hT]; exact if_neg hR
      subst hT0
      simp [hR, aun, bs_lit]
    simp [hR, aun]
    have hTl : T.length ≤ 100000 := by rw [← hT]; exact mtText_len hR
    refine (mparse_ok T hTl H).mono ?_
    rintro _ h9' ⟨⟨M, e, rfl, m', hP, hcase⟩, e'⟩
    rw [e']; clear e' h9'
    rw [← hT] at hP
    have hm' := uniqM hR hP
    subst hm'
    have hTn : T ≠ [] := by rw [← hT]; exact mtText_ne hR
    rcases hcase with ⟨h | h, _⟩ | ⟨_, rfl, rfl⟩
    · exact absurd h hTn
    · exact absurd hT h
    have fz := cellsOf_new H (zeroM.l.map cI) .ex 1
    have f1 := cellsOf_new H (M.l.map cI) .ex 1
    have f0' : ∀ o, (H.push o).cellsOf h.n = some (M.l.map cI, .ex, 1) := fun o => by rw [cellsOf_ne (by omega)]; exact f0
    simp [fz, hm13, hl13, hp13, set_push, f1, f0', q13, apart]
    have f02 := f0' (.cells (M.l.map cI) .ex 1)
    generalize H.push (.cells (M.l.map cI) .ex 1) = H2 at *
    rw [hma]
    refine (plain_ok M H2).mono ?_
    rintro _ h9' ⟨rfl, e⟩
    rw [e]; clear e h9'
    simp
    refine (rtext_ok M hR H2).mono ?_
    rintro _ h9' ⟨rfl, e⟩
    rw [e]; clear e h9'
    simp [hsv, hT, f1, f02, q13, apart, eq13M M M]

section
open Go.RowKit Go.ChangeShapes Go.WideShapes
variable {H : Type} {P : Program} {W : World} {enc : TypeId × Value → H}
def FlatT (enc : TypeId × Value → H) (P : Program) (W : World) (t : TypeId) : Prop :=
  ∀ b sp hh fuel cs x, DataW.trod enc P W b sp hh fuel t cs = some x → cs.length = P.cellsOf t ∧ ∀ c ∈ cs, ∃ n, c = Value.int .i64 n ∧ (Lit.int .i64 n).wf = true
theorem flat_int {t : TypeId} (h : P.underlying t = some (.int .i64)) (h1 : P.cellsOf t = 1) : FlatT enc P W t := fun b sp hh fuel cs x hx => by
  obtain ⟨n, hn, _, wf⟩ := DataW.trod_int h hx
  rw [hn, h1]
  refine ⟨rfl, fun c hc => ?_⟩
  simp only [List.mem_singleton] at hc
  exact ⟨n, hc, wf⟩
theorem flat_array {t e : TypeId} {n : Nat} (h : P.underlying t = some (.array n e)) (he : FlatT enc P W e) (hc : P.cellsOf t = n * P.cellsOf e) : FlatT enc P W t := fun b sp hh fuel cs x hx => by
  obtain ⟨xs, m, _, _, hl0, hl, hi⟩ := DataW.trod_array h hx
  refine ⟨hl0, fun c hcm => ?_⟩
  obtain ⟨j, hj, rfl⟩ := List.mem_iff_getElem.1 hcm
  have hpos : 0 < P.cellsOf e := by
    rcases Nat.eq_zero_or_pos (P.cellsOf e) with q | q
    · rw [hl0, hc, q] at hj; simp at hj
    · exact q
  have hjn : j / P.cellsOf e < n := by rw [Nat.div_lt_iff_lt_mul hpos, ← hc, ← hl0]; exact hj
  have hx2 := hi _ hjn
  rw [List.getElem?_eq_getElem (by omega)] at hx2
  refine (he _ _ _ _ _ _ hx2).2 _ (List.mem_iff_getElem.2 ⟨j % P.cellsOf e, ?_, ?_⟩)
  · have := Nat.mod_lt j hpos
    have := Nat.div_add_mod' j (P.cellsOf e)
    have := Nat.div_add_mod j (P.cellsOf e)
    have hm : (j / P.cellsOf e + 1) * P.cellsOf e ≤ n * P.cellsOf e := Nat.mul_le_mul_right _ hjn
    rw [Nat.add_mul] at hm
    simp only [List.length_take, List.length_drop]
    omega
  · have := Nat.div_add_mod' j (P.cellsOf e)
    simp only [List.getElem_take, List.getElem_drop]
    congr 1
theorem flat_struct {t : TypeId} {fs : Array Field} (h : P.underlying t = some (.struct fs))
    (cover : ∀ j, j < P.cellsOf t → ∃ (i : Nat) (f : Field), fs[i]? = some f ∧ f.offset ≤ j ∧ j < f.offset + P.cellsOf f.type ∧ FlatT enc P W f.type) : FlatT enc P W t := fun b sp hh fuel cs x hx => by
  obtain ⟨xs, m, _, _, hl0, hl, hi⟩ := DataW.trod_struct h hx
  refine ⟨hl0, fun c hcm => ?_⟩
  obtain ⟨j, hj, rfl⟩ := List.mem_iff_getElem.1 hcm
  obtain ⟨i, f, hf, h1, h2, h3⟩ := cover j (by omega)
  have hx2 := hi i f hf
  have hif : i < fs.size := (Array.getElem?_eq_some_iff.1 hf).1
  rw [List.getElem?_eq_getElem (by omega)] at hx2
  refine (h3 _ _ _ _ _ _ hx2).2 _ (List.mem_iff_getElem.2 ⟨j - f.offset, ?_, ?_⟩)
  · simp only [List.length_take, List.length_drop]
    omega
  · simp only [List.getElem_take, List.getElem_drop]
    congr 1
    omega
theorem ints_list : ∀ {cs : List Value}, (∀ c ∈ cs, ∃ n, c = Value.int .i64 n ∧ (Lit.int .i64 n).wf = true) → ∃ xs : List Int, cs = xs.map (Value.int .i64) ∧ ∀ x ∈ xs, (Lit.int .i64 x).wf = true
  | [], _ => ⟨[], rfl, fun x hx => by cases hx⟩
  | c :: cs, h => by
    obtain ⟨xs, h1, h2⟩ := ints_list (cs := cs) fun y hy => h y (by simp [hy])
    obtain ⟨n, rfl, wf⟩ := h c (by simp)
    refine ⟨n :: xs, by rw [h1]; rfl, fun y hy => ?_⟩
    rcases List.mem_cons.1 hy with rfl | hy
    · exact wf
    · exact h2 y hy
theorem open_flat {t : TypeId} {fs : Array Field} {n : Nat} {v : Value} {d : DataW H} {ps : List MemPlace} (ht : P.underlying t = some (.struct fs)) (hn : P.cellsOf t = n) (hF : FlatT enc P W t)
    {r : Reach} {b : Nat} (hval : Value.okWide P W r b t v) {sp : Nat → Bool} {hh : Bool} (hd : DataW.Trod enc P W 0 sp hh t v d ps) :
    ∃ xs : List Int, v = .agg (xs.map (Value.int .i64)).toArray ∧ xs.length = n ∧ ∀ x ∈ xs, (Lit.int .i64 x).wf = true := by
  obtain ⟨cs, rfl, hsz⟩ := okWide_struct ht hval
  obtain ⟨fuel, h⟩ := hd
  obtain ⟨hl, hall⟩ := hF _ _ _ _ _ _ h
  obtain ⟨xs, h1, h2⟩ := ints_list hall
  have e : (Value.agg cs).cells.toList = cs.toList := rfl
  refine ⟨xs, ?_, ?_, h2⟩
  · rw [← h1, e]
  · have := congrArg List.length h1
    rw [List.length_map, hl, hn] at this
    exact this.symm
end
theorem flatMeta {H : Type} {W : World} {enc : TypeId × Value → H} : FlatT enc Tryz.prog W 55 := by
  have i3 : FlatT enc Tryz.prog W 3 := flat_int Tryz.underlying3 (by kernel_rfl)
  have s133 : FlatT enc Tryz.prog W 52 := by
    refine flat_struct Tryz.underlying52 fun j hj => ?_
    have : j < 3 := by have e : Tryz.prog.cellsOf 52 = 3 := by kernel_rfl
                       omega
    have c3 : Tryz.prog.cellsOf 3 = 1 := by kernel_rfl
    have fl3 : ∀ {k : Nat}, k < k + Tryz.prog.cellsOf 3 := by intro k; omega
    match j, this with
    | 0, _ => exact ⟨0, _, rfl, Nat.le_refl _, fl3, i3⟩
    | 1, _ => exact ⟨1, _, rfl, Nat.le_refl _, fl3, i3⟩
    | 2, _ => exact ⟨2, _, rfl, Nat.le_refl _, fl3, i3⟩
  have a134 : FlatT enc Tryz.prog W 53 := flat_array Tryz.underlying53 s133 (by kernel_rfl)
  refine flat_struct Tryz.underlying55 fun j hj => ?_
  have : j < 13 := by have e : Tryz.prog.cellsOf 55 = 13 := by kernel_rfl
                      omega
  have c3 : Tryz.prog.cellsOf 3 = 1 := by kernel_rfl
  have fl3 : ∀ {k : Nat}, k < k + Tryz.prog.cellsOf 3 := by intro k; omega
  have c9 : Tryz.prog.cellsOf 53 = 9 := by kernel_rfl
  by_cases h9 : j < 9
  · exact ⟨0, _, rfl, Nat.zero_le _, (by show j < 0 + Tryz.prog.cellsOf 53; omega), a134⟩
  · match j, this, h9 with
    | 9, _, _ => exact ⟨1, _, rfl, Nat.le_refl _, fl3, i3⟩
    | 10, _, _ => exact ⟨2, _, rfl, Nat.le_refl _, fl3, i3⟩
    | 11, _, _ => exact ⟨3, _, rfl, Nat.le_refl _, fl3, i3⟩
    | 12, _, _ => exact ⟨4, _, rfl, Nat.le_refl _, fl3, i3⟩
theorem len13 {l : List Int} (h : l.length = 13) : ∃ m : Mt, l = m.l := by
  match l, h with
  | [a, b, c, d, e, f, g, i, j, k, m, n, o], _ => exact ⟨⟨⟨a, b, c⟩, ⟨d, e, f⟩, ⟨g, i, j⟩, k, m, n, o⟩, rfl⟩

end Go.Proofs.YtofoihlcjmghfaaGreatDoor.metx

