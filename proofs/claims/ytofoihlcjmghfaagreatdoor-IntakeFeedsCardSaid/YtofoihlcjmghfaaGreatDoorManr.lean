/-
  Contracts.
-/
import Derived.Test.YtofoihlcjmghfaaGreatDoorManf
import Derived.Test.YtofoihlcjmghfaaGreatDoorSha
import Derived.Test.YtofoihlcjmghfaaGreatDoorLin1
import Derived.Test.YtofoihlcjmghfaaGreatDoorVers
import Derived.Test.YtofoihlcjmghfaaGreatDoorStr
import Derived.Test.YtofoihlcjmghfaaGreatDoorAbEnter
import Derived.Test.YtofoihlcjmghfaaGreatDoorAbStep
import Derived.Test.YtofoihlcjmghfaaGreatDoorProg
import Derived.IntWalk
import Derived.KernelRfl
set_option linter.unusedSimpArgs false
set_option linter.unusedVariables false
set_option linter.unusedSectionVars false
namespace Go.Proofs.YtofoihlcjmghfaaGreatDoor.manr
open Go Go.Ab Go.Proofs Go.RowKit Go.Proofs.YtofoihlcjmghfaaGreatDoor.str Go.Proofs.YtofoihlcjmghfaaGreatDoor.vers Go.Proofs.YtofoihlcjmghfaaGreatDoor.lin1 Go.Proofs.YtofoihlcjmghfaaGreatDoor.sha Go.Proofs.YtofoihlcjmghfaaGreatDoor.manf
variable [Inhabited TabBox]
variable [Nonempty GF]
variable [Nonempty GE]
set_option maxRecDepth 100000
attribute [local simp] s_ops s_seq s_cond s_cond_t s_cond_f s_block s_exit s_ret s_skip s_then_n s_then_n' s_then_e s_then_e' s_then_r s_then_r' s_block_n s_block_r s_block_e s_post_r s_post_n s_res0 s_res1 s_res2 s_res3 s_res4 s_nil s_cons s_guard s_guard_tt s_guard_ff s_guard_tf s_guard_ft s_guard_u s_call s_kL s_put s_put0 s_set s_tmp s_const s_func s_glob s_init s_mkF s_mkF0 s_mv s_bin s_pick s_op aop oK_some oK_none bK_some bK_none b_add b_sub b_mul b_quo b_rem b_and b_or b_xor b_andNot b_shl b_shr b_eql b_neq b_lss b_leq b_gtr b_geq b_sadd b_seql b_sneq b_slss b_sleq b_sgtr b_sgeq s_draw s_drawT s_tK s_tT s_tF s_tB s_tR s_stage s_stage0 s_kW s_kR s_rc0 s_rc s_rcg rK_some rK_none rG_b rG_u s_callv s_callv_f s_nextM s_postR_r s_postR_n s_resA0 s_resAt s_resAc s_resC s_tup0 s_tup1 s_tup2 s_tup3
variable [Nonempty GM]
theorem digN_nval : ∀ s : List UInt8, (∀ c ∈ s, isDig c) → digN s.length (nval s) = s ∧ nval s < 10 ^ s.length := by
  have main : ∀ (n : Nat) (s : List UInt8), s.length = n → (∀ c ∈ s, isDig c) → digN s.length (nval s) = s ∧ nval s < 10 ^ s.length := fun n => by
   induction n with
   | zero =>
    intro s hs _
    rw [List.length_eq_zero_iff.1 hs]
    exact ⟨rfl, by decide⟩
   | succ n ih =>
    intro s hs h
    have hne : s ≠ [] := fun q => by rw [q] at hs; simp at hs
    obtain ⟨l, c, rfl⟩ : ∃ l c, s = l ++ [c] := ⟨s.dropLast, s.getLast hne, (List.dropLast_concat_getLast hne).symm⟩
    obtain ⟨h1, h2⟩ := ih l (by simpa using hs) fun d hd => h d (by simp [hd])
    have hc := h c (by simp)
    unfold isDig at hc
    have hv : nval (l ++ [c]) = 10 * nval l + (c.toNat - 48) := nval_app l c
    rw [List.length_append, List.length_singleton, digN, hv]
    have e1 : (10 * nval l + (c.toNat - 48)) / 10 = nval l := by omega
    have e2 : UInt8.ofNat (48 + (10 * nval l + (c.toNat - 48)) % 10) = c := by
      apply UInt8.toNat_inj.1
      rw [UInt8.toNat_ofNat']
      omega
    rw [e1, e2, h1]
    refine ⟨rfl, ?_⟩
    rw [Nat.pow_succ]; omega
  exact fun s h => main _ s rfl h
theorem dec_canon {s : List UInt8} (h : ∀ c ∈ s, isDig c) (h0 : s ≠ []) (hl : s.length ≤ 18) (hz : s.length = 1 ∨ s.head? ≠ some 48) : dec (nval s) = s := by
  obtain ⟨h1, h2⟩ := digN_nval s h
  have hn : ndig (nval s) = s.length := by
    obtain ⟨k, hk⟩ : ∃ k, s.length = k + 1 := by cases s with | nil => exact absurd rfl h0 | cons a b => exact ⟨b.length, rfl⟩
    rw [hk] at h2 ⊢
    refine ndig_eq (by omega) ?_ h2
    by_cases hk0 : k = 0
    · exact .inr hk0
    · left
      match s, hk with
      | a :: r, hk =>
        have ha := h a (by simp)
        have ha48 : a ≠ 48 := fun q => by
          rcases hz with q2 | q2
          · exact hk0 (by omega)
          · exact q2 (by rw [q]; rfl)
        have hr : r.length = k := by simpa using hk
        have key : ∀ (r : List UInt8) (n : Nat), n * 10 ^ r.length ≤ r.foldl (fun n c => 10 * n + (c.toNat - 48)) n := by
          intro r
          induction r with
          | nil => intro n; simp
          | cons c r ih =>
            intro n
            rw [List.foldl_cons, List.length_cons, Nat.pow_succ]
            have h1 := ih (10 * n + (c.toNat - 48))
            have h2 : 10 * n * 10 ^ r.length ≤ (10 * n + (c.toNat - 48)) * 10 ^ r.length := Nat.mul_le_mul_right _ (by omega)
            have h3 : n * (10 ^ r.length * 10) = 10 * n * 10 ^ r.length := by rw [Nat.mul_comm (10 ^ r.length) 10, ← Nat.mul_assoc, Nat.mul_comm n 10]
            omega
        have h3 := key r (a.toNat - 48)
        have h4 : nval (a :: r) = r.foldl (fun n c => 10 * n + (c.toNat - 48)) (a.toNat - 48) := by
          show (a :: r).foldl _ 0 = _
          rw [List.foldl_cons]; simp
        rw [h4]
        have h5 : 1 ≤ a.toNat - 48 := by
          unfold isDig at ha
          have : a.toNat ≠ 48 := fun q => ha48 (UInt8.toNat_inj.1 q)
          omega
        rw [hr] at h3
        have : 1 * 10 ^ k ≤ (a.toNat - 48) * 10 ^ k := Nat.mul_le_mul_right _ h5
        omega
  unfold dec
  rw [hn, h1]
def mP : List UInt8 := [84, 82, 73, 80, 84, 89, 67, 72, 10, 118, 101, 114, 115, 105, 111, 110, 32]
def lP : List UInt8 := [108, 101, 110, 103, 116, 104, 32]
def sP : List UInt8 := [115, 104, 97, 50, 53, 54, 32]
theorem mText_parts (x : Hd) : mText x = mP ++ (vtext x.a x.b x.c ++ 10 :: (lP ++ (itoaB x.n ++ 10 :: (sP ++ (hexB x.hs ++ [10, 10]))))) := by
  simp [mText, mL, joinB, mP, lP, sP]
def dig16 (c : UInt8) : Int := if 48 ≤ c.toNat ∧ c.toNat ≤ 57 then (c.toNat : Int) - 48 else if 97 ≤ c.toNat ∧ c.toNat ≤ 102 then (c.toNat : Int) - 87 else -1
theorem dig16_pv (c : UInt8) : dig16 c = pv c := by
  have : ∀ n : Fin 256, dig16 (UInt8.ofNat n.val) = pv (UInt8.ofNat n.val) := by decide +kernel
  have h := this ⟨c.toNat, c.toNat_lt⟩
  simpa using h
theorem dec_first {n : Nat} (hn : n < 2 ^ 64) (h : 1 < (dec n).length) : (dec n).head? ≠ some 48 := by
  obtain ⟨k, hk, h1, h2⟩ := ndig_ex 20 n (by omega) (by omega) (by have : (2 : Nat) ^ 64 < 10 ^ 20 := by decide
                                                                   omega)
  have hnd : ndig n = k + 1 := ndig_eq (by omega) h1 h2
  rw [dec_len, hnd] at h
  have h1' : 10 ^ k ≤ n := h1.resolve_right (by omega)
  have hp : 0 < 10 ^ k := Nat.pos_of_ne_zero (by simp)
  have q1 : 1 ≤ n / 10 ^ k := (Nat.le_div_iff_mul_le hp).2 (by omega)
  have q2 : n / 10 ^ k < 10 := by
    apply Nat.div_lt_of_lt_mul
    rw [Nat.pow_succ] at h2; exact h2
  have hd : dec n = UInt8.ofNat (48 + n / 10 ^ k % 10) :: digN k n := by
    unfold dec
    rw [hnd, Nat.add_comm k 1, digN_add 1 k]
    rfl
  rw [hd]
  intro q
  simp only [List.head?_cons, Option.some.injEq] at q
  have := congrArg UInt8.toNat q
  rw [UInt8.toNat_ofNat'] at this
  have h48 : (48 : UInt8).toNat = 48 := rfl
  omega
def NumV (s : List UInt8) (v : Value) : Prop := (∀ n : Nat, n < 100000000 → s = dec n → v = .tuple #[.int .i64 n, .bool true]) ∧ ((∀ n : Nat, n < 100000000 → s ≠ dec n) → v = .tuple #[.int .i64 0, .bool false])
theorem num_good {s : List UInt8} (h : ∀ c ∈ s, isDig c) (h0 : s ≠ []) (hl : s.length ≤ 8) (hz : ¬ (1 < s.length ∧ s.head? = some 48)) : NumV s (.tuple #[.int .i64 (nval s : Nat), .bool true]) := by
  have hc := dec_canon h h0 (by omega) (by
    by_cases q : s.length = 1
    · exact .inl q
    · refine .inr fun q2 => hz ⟨?_, q2⟩
      cases s with
      | nil => exact absurd rfl h0
      | cons a b => simp at q ⊢; cases b with | nil => exact absurd rfl q | cons c d => simp)
  have hv := (digN_nval s h).2
  have hv8 : nval s < 100000000 := Nat.lt_of_lt_of_le hv (Nat.pow_le_pow_right (by decide) hl)
  refine ⟨fun n hn q => ?_, fun q => absurd hc.symm (q _ hv8)⟩
  have : n = nval s := dec_inj (by omega) (by omega) (q.symm.trans hc.symm)
  rw [this]
theorem num_bad {s : List UInt8} (h : s = [] ∨ 8 < s.length ∨ (1 < s.length ∧ s.head? = some 48) ∨ ∃ c ∈ s, ¬ isDig c) : NumV s (.tuple #[.int .i64 0, .bool false]) := by
  refine ⟨fun n hn q => ?_, fun _ => rfl⟩
  exfalso
  have hn64 : n < 2 ^ 64 := by omega
  rcases h with h | h | h | ⟨c, h1, h2⟩
  · exact dec_ne n hn64 (q ▸ h)
  · have := ndig_small (u := n) (k := 8) (by omega) (by omega) (by omega)
    rw [q, dec_len] at h; omega
  · rw [q] at h
    exact dec_first hn64 h.1 h.2
  · rw [q] at h1; exact h2 (dec_dig n c h1)

def c69 : AC := .seq (.ops [⟨some 4,none,.mv (.const (.string ⟨⟨[]⟩⟩))⟩,⟨some 5,none,.mv (.const (.bool false))⟩]) (.seq (.seq (.ops [⟨some 6,none,.mv (.tmp 0)⟩,⟨some 7,none,.lenS true (.tmp 6)⟩,⟨some 8,none,.mv (.tmp 1)⟩,⟨some 9,none,.lenS true (.tmp 8)⟩,⟨some 10,none,.bin .lss (.tmp 7) (.tmp 9)⟩,⟨some 11,none,.mv (.tmp 10)⟩,⟨some 12,some (11,false),.mv (.tmp 0)⟩,⟨some 13,some (11,false),.mv (.tmp 1)⟩,⟨some 14,some (11,false),.lenS true (.tmp 13)⟩,⟨some 15,some (11,false),.slS (.tmp 12) none (some (.tmp 14))⟩,⟨some 16,some (11,false),.mv (.tmp 1)⟩,⟨some 17,some (11,false),.bin .neq (.tmp 15) (.tmp 16)⟩,⟨some 18,none,.pick (.tmp 11) (.const (.bool true)) (.tmp 17)⟩]) (.cond (.tmp 18) (.seq (.ops [⟨some 4,none,.mv (.const (.string ⟨⟨[]⟩⟩))⟩,⟨some 5,none,.mv (.const (.bool false))⟩]) .ret) .skip)) (.seq (.ops [⟨some 19,none,.mv (.tmp 0)⟩,⟨some 20,none,.mv (.tmp 1)⟩,⟨some 21,none,.lenS true (.tmp 20)⟩,⟨some 22,none,.slS (.tmp 19) (some (.tmp 21)) none⟩,⟨some 4,none,.mv (.tmp 22)⟩,⟨some 5,none,.mv (.const (.bool true))⟩]) .ret))
theorem k69 : compF Tryz.prog Tryz.f69 = some (c69, [4, 5]) := by kernel_rfl
theorem n69 : Tryz.f69.ntmps = 23 := by kernel_rfl
def c70_0 : AC := .seq (.seq (.ops [⟨some 6,none,.mv (.tmp 5)⟩,⟨some 7,none,.mv (.tmp 0)⟩,⟨some 8,none,.lenS true (.tmp 7)⟩,⟨some 9,none,.bin .lss (.tmp 6) (.tmp 8)⟩]) (.cond (.tmp 9) .skip (.exit 0))) (.seq (.block 1 (.seq (.ops [⟨some 12,none,.mv (.tmp 0)⟩,⟨some 13,none,.mv (.tmp 5)⟩,⟨some 14,none,.iStr (.tmp 12) (.tmp 13)⟩,⟨some 15,none,.bin .eql (.tmp 14) (.const (.int .u8 10))⟩]) (.cond (.tmp 15) (.seq (.draw [([⟨some 16,none,.mv (.tmp 0)⟩,⟨some 17,none,.mv (.tmp 5)⟩,⟨some 18,none,.slS (.tmp 16) none (some (.tmp 17))⟩,⟨some 19,none,.mv (.tmp 0)⟩,⟨some 20,none,.mv (.tmp 5)⟩,⟨some 21,none,.bin .add (.tmp 20) (.const (.int .i64 1))⟩,⟨some 22,none,.slS (.tmp 19) (some (.tmp 21)) none⟩,⟨some 2,none,.mv (.tmp 18)⟩,⟨some 3,none,.mv (.tmp 22)⟩,⟨some 4,none,.mv (.const (.bool true))⟩],[],[])]) .ret) .skip))) (.ops [⟨some 10,none,.mv (.tmp 5)⟩,⟨some 11,none,.bin .add (.tmp 10) (.const (.int .i64 1))⟩,⟨some 5,none,.mv (.tmp 11)⟩]))
def c70 : AC := .seq (.ops [⟨some 2,none,.mv (.const (.string ⟨⟨[]⟩⟩))⟩,⟨some 3,none,.mv (.const (.string ⟨⟨[]⟩⟩))⟩,⟨some 4,none,.mv (.const (.bool false))⟩]) (.seq (.seq (.ops [⟨some 5,none,.mv (.const (.int .i64 0))⟩]) (.block 0 (.loop c70_0))) (.seq (.ops [⟨some 2,none,.mv (.const (.string ⟨⟨[]⟩⟩))⟩,⟨some 3,none,.mv (.const (.string ⟨⟨[]⟩⟩))⟩,⟨some 4,none,.mv (.const (.bool false))⟩]) .ret))
theorem k70 : compF Tryz.prog Tryz.f70 = some (c70, [2, 3, 4]) := by kernel_rfl
theorem n70 : Tryz.f70.ntmps = 23 := by kernel_rfl
def c72_0 : AC := .seq (.seq (.ops [⟨some 24,none,.mv (.tmp 5)⟩,⟨some 25,none,.mv (.tmp 0)⟩,⟨some 26,none,.lenS true (.tmp 25)⟩,⟨some 27,none,.bin .lss (.tmp 24) (.tmp 26)⟩]) (.cond (.tmp 27) .skip (.exit 0))) (.seq (.block 1 (.seq (.seq (.ops [⟨some 30,none,.mv (.tmp 0)⟩,⟨some 31,none,.mv (.tmp 5)⟩,⟨some 32,none,.iStr (.tmp 30) (.tmp 31)⟩,⟨some 33,none,.bin .lss (.tmp 32) (.const (.int .u8 48))⟩,⟨some 34,none,.mv (.tmp 33)⟩,⟨some 35,some (34,false),.mv (.tmp 0)⟩,⟨some 36,some (34,false),.mv (.tmp 5)⟩,⟨some 37,some (34,false),.iStr (.tmp 35) (.tmp 36)⟩,⟨some 38,some (34,false),.bin .gtr (.tmp 37) (.const (.int .u8 57))⟩,⟨some 39,none,.pick (.tmp 34) (.const (.bool true)) (.tmp 38)⟩]) (.cond (.tmp 39) (.seq (.ops [⟨some 2,none,.mv (.const (.int .i64 0))⟩,⟨some 3,none,.mv (.const (.bool false))⟩]) .ret) .skip)) (.ops [⟨some 40,none,.mv (.tmp 4)⟩,⟨some 41,none,.bin .mul (.const (.int .i64 10)) (.tmp 40)⟩,⟨some 42,none,.mv (.tmp 0)⟩,⟨some 43,none,.mv (.tmp 5)⟩,⟨some 44,none,.iStr (.tmp 42) (.tmp 43)⟩,⟨some 45,none,.toInt .i64 (.tmp 44)⟩,⟨some 46,none,.bin .add (.tmp 41) (.tmp 45)⟩,⟨some 47,none,.bin .sub (.tmp 46) (.const (.int .i64 48))⟩,⟨some 4,none,.mv (.tmp 47)⟩]))) (.ops [⟨some 28,none,.mv (.tmp 5)⟩,⟨some 29,none,.bin .add (.tmp 28) (.const (.int .i64 1))⟩,⟨some 5,none,.mv (.tmp 29)⟩]))
def c72 : AC := .seq (.ops [⟨some 2,none,.mv (.const (.int .i64 0))⟩,⟨some 3,none,.mv (.const (.bool false))⟩]) (.seq (.seq (.ops [⟨some 6,none,.mv (.tmp 0)⟩,⟨some 7,none,.lenS true (.tmp 6)⟩,⟨some 8,none,.bin .eql (.tmp 7) (.const (.int .i64 0))⟩,⟨some 9,none,.mv (.tmp 8)⟩,⟨some 10,some (9,false),.mv (.tmp 0)⟩,⟨some 11,some (9,false),.lenS true (.tmp 10)⟩,⟨some 12,some (9,false),.bin .gtr (.tmp 11) (.const (.int .i64 8))⟩,⟨some 13,none,.pick (.tmp 9) (.const (.bool true)) (.tmp 12)⟩,⟨some 14,none,.mv (.tmp 13)⟩,⟨some 15,some (14,false),.mv (.tmp 0)⟩,⟨some 16,some (14,false),.lenS true (.tmp 15)⟩,⟨some 17,some (14,false),.bin .gtr (.tmp 16) (.const (.int .i64 1))⟩,⟨some 18,some (14,false),.mv (.tmp 17)⟩,⟨some 19,some (18,true),.mv (.tmp 0)⟩,⟨some 20,some (18,true),.iStr (.tmp 19) (.const (.int .i64 0))⟩,⟨some 21,some (18,true),.bin .eql (.tmp 20) (.const (.int .u8 48))⟩,⟨some 22,some (14,false),.pick (.tmp 18) (.tmp 21) (.const (.bool false))⟩,⟨some 23,none,.pick (.tmp 14) (.const (.bool true)) (.tmp 22)⟩]) (.cond (.tmp 23) (.seq (.ops [⟨some 2,none,.mv (.const (.int .i64 0))⟩,⟨some 3,none,.mv (.const (.bool false))⟩]) .ret) .skip)) (.seq (.ops [⟨some 4,none,.mv (.const (.int .i64 0))⟩]) (.seq (.seq (.ops [⟨some 5,none,.mv (.const (.int .i64 0))⟩]) (.block 0 (.loop c72_0))) (.seq (.ops [⟨some 48,none,.mv (.tmp 4)⟩,⟨some 2,none,.mv (.tmp 48)⟩,⟨some 3,none,.mv (.const (.bool true))⟩]) .ret))))
theorem k72 : compF Tryz.prog Tryz.f72 = some (c72, [2, 3]) := by kernel_rfl
theorem n72 : Tryz.f72.ntmps = 49 := by kernel_rfl
def c73 : AC := .seq (.ops [⟨some 2,none,.mv (.const (.int .i64 0))⟩]) (.seq (.seq (.ops [⟨some 3,none,.mv (.tmp 0)⟩,⟨some 4,none,.bin .geq (.tmp 3) (.const (.int .u8 48))⟩,⟨some 5,none,.mv (.tmp 4)⟩,⟨some 6,some (5,true),.mv (.tmp 0)⟩,⟨some 7,some (5,true),.bin .leq (.tmp 6) (.const (.int .u8 57))⟩,⟨some 8,none,.pick (.tmp 5) (.tmp 7) (.const (.bool false))⟩]) (.cond (.tmp 8) (.seq (.ops [⟨some 9,none,.mv (.tmp 0)⟩,⟨some 10,none,.toInt .i64 (.tmp 9)⟩,⟨some 11,none,.bin .sub (.tmp 10) (.const (.int .i64 48))⟩,⟨some 2,none,.mv (.tmp 11)⟩]) .ret) .skip)) (.seq (.seq (.ops [⟨some 12,none,.mv (.tmp 0)⟩,⟨some 13,none,.bin .geq (.tmp 12) (.const (.int .u8 97))⟩,⟨some 14,none,.mv (.tmp 13)⟩,⟨some 15,some (14,true),.mv (.tmp 0)⟩,⟨some 16,some (14,true),.bin .leq (.tmp 15) (.const (.int .u8 102))⟩,⟨some 17,none,.pick (.tmp 14) (.tmp 16) (.const (.bool false))⟩]) (.cond (.tmp 17) (.seq (.ops [⟨some 18,none,.mv (.tmp 0)⟩,⟨some 19,none,.toInt .i64 (.tmp 18)⟩,⟨some 20,none,.bin .sub (.tmp 19) (.const (.int .i64 87))⟩,⟨some 2,none,.mv (.tmp 20)⟩]) .ret) .skip)) (.seq (.ops [⟨some 2,none,.mv (.const (.int .i64 (-1)))⟩]) .ret)))
theorem k73 : compF Tryz.prog Tryz.f73 = some (c73, [2]) := by kernel_rfl
theorem n73 : Tryz.f73.ntmps = 21 := by kernel_rfl
variable [Nonempty GM]
theorem after_ok (s p : List UInt8) (h : Heap) : ACalls Tryz.prog 69 [.string (bs s), .string (bs p)] h fun v h' => v = .tuple #[sv (if s.take p.length = p then s.drop p.length else []), .bool (decide (s.take p.length = p))] ∧ h' = h := by
  refine ACalls.same (vb_tup2 .string .bool) (acalls_of mix Tryz.func69 k69 n69 (by simp) fun hcl hb => ?_)
  have eH : h.Ext h := Heap.Ext.refl h
  by_cases hle : p.length ≤ s.length
  · have hle' : ¬ (s.length : Int) < (p.length : Int) := by omega
    have b1 : abounds s.length s.length none (some (.int .i64 (p.length : Int))) none = some (0, p.length, s.length) := abounds_hi hle
    have b2 : abounds s.length s.length (some (.int .i64 (p.length : Int))) none none = some (p.length, s.length, s.length) := abounds_lo hle (Nat.le_refl _)
    have x1 : (bs s).extract 0 p.length = bs (s.take p.length) := by rw [bs_extract, List.drop_zero]
    have x2 : (bs s).extract p.length s.length = bs (s.drop p.length) := by rw [bs_extract, List.take_of_length_le (Nat.le_refl _)]
    by_cases hx : s.take p.length = p
    · simp [c69, bs_size, hle', b1, b2, x1, x2, bs_eq_dec, hx]
      exact ⟨rfl, eH⟩
    · simp [c69, bs_size, hle', b1, b2, x1, x2, bs_eq_dec, hx, bs_lit]
      exact ⟨rfl, eH⟩
  · have hle' : (s.length : Int) < (p.length : Int) := by omega
    have hx : ¬ s.take p.length = p := fun q => by
      have := congrArg List.length q
      rw [List.length_take] at this; omega
    simp [c69, bs_size, hle', hx, bs_lit]
    exact ⟨rfl, eH⟩
def LineV (s : List UInt8) (v : Value) : Prop := (∃ a b, s = a ++ 10 :: b ∧ (10 : UInt8) ∉ a ∧ v = .tuple #[sv a, sv b, .bool true]) ∨ ((10 : UInt8) ∉ s ∧ v = .tuple #[sv [], sv [], .bool false])
theorem rline_ok (s : List UInt8) (hs : s.length ≤ 1000000) (h : Heap) : ACalls Tryz.prog 70 [.string (bs s)] h fun v h' => LineV s v ∧ h' = h := by
  refine ACalls.same' (fun v q => ?_) (acalls_of mix Tryz.func70 k70 n70 (by simp) fun hcl hb => ?_)
  · rcases q with ⟨a, b, _, _, rfl⟩ | ⟨_, rfl⟩
    all_goals exact vb_tup3 .string .string .bool
  simp only [c70, s_seq, s_ops]
  simp
  refine awp_loop_of (α := KS2) (fun z => z.i ≤ s.length ∧ (10 : UInt8) ∉ s.take z.i) (fun z => [(0, .string (bs s)), (5, .int .i64 z.i)]) (fun _ => h) (fun z => s.length - z.i) ⟨0⟩
    ⟨Nat.zero_le _, by simp⟩ (Heap.Sub.refl hcl) (by simp; exact ⟨.string, .int⟩) ?_
  rintro ⟨i⟩ ⟨hi, hno⟩
  dsimp only at hi hno ⊢
  have eH : h.Ext h := Heap.Ext.refl h
  by_cases hlt : i < s.length
  · have hi' : (i : Int) < (s.length : Int) := by omega
    have w4 : IntKind.i64.wrap ((i : Int) + 1) = ((i + 1 : Nat) : Int) := w1 i (by omega)
    have g1 : s[i]? = some s[i] := List.getElem?_eq_getElem hlt
    have iX : aidx (.int .i64 (i : Int)) s.length = some i := aidx_of hlt
    have b1 : abounds s.length s.length none (some (.int .i64 (i : Int))) none = some (0, i, s.length) := abounds_hi (by omega)
    have b2 : abounds s.length s.length (some (.int .i64 ((i + 1 : Nat) : Int))) none none = some (i + 1, s.length, s.length) := abounds_lo (by omega) (Nat.le_refl _)
    have x1 : (bs s).extract 0 i = bs (s.take i) := by rw [bs_extract, List.drop_zero]
    have x2 : (bs s).extract (i + 1) s.length = bs (s.drop (i + 1)) := by rw [bs_extract, List.take_of_length_le (Nat.le_refl _)]
    have hsp : s = s.take i ++ s[i] :: s.drop (i + 1) := by
      rw [← List.drop_eq_getElem_cons hlt, List.take_append_drop]
    have htk : s.take (i + 1) = s.take i ++ [s[i]] := List.take_succ_eq_append_getElem hlt
    generalize hc : s[i] = c at *
    by_cases h1 : c = 10
    · subst h1
      simp [c70_0, hi', bs_size, bs_data, iX, g1, hc, w4, b1, b2, x1, x2, -Int.natCast_add]
      exact ⟨.inl ⟨_, _, hsp, hno, rfl⟩, eH⟩
    · have h1' : ¬ (c.toNat : Int) = 10 := fun q => h1 (UInt8.toNat_inj.1 (by show c.toNat = 10; omega))
      have h1'' : ¬ c.toNat = 10 := fun q => h1 (UInt8.toNat_inj.1 q)
      simp [c70_0, hi', bs_size, bs_data, iX, g1, hc, h1, h1', h1'', w4, -Int.natCast_add]
      exact ⟨⟨i + 1⟩, by show s.length - (i + 1) < s.length - i; omega, ⟨by show i + 1 ≤ s.length; omega, by show (10 : UInt8) ∉ s.take (i + 1); rw [htk]; simp only [List.mem_append, List.mem_singleton, not_or]; exact ⟨hno, fun q => h1 q.symm⟩⟩, Heap.Sub.refl hcl, .string, rfl, .int⟩
  · have hie : i = s.length := by omega
    have hi' : ¬ (i : Int) < (s.length : Int) := by omega
    rw [List.take_of_length_le (by omega)] at hno
    simp [c70_0, hi', bs_size, bs_lit, -Int.natCast_add]
    exact ⟨.inr ⟨hno, rfl⟩, eH⟩
theorem nval_snoc' (s : List UInt8) (i : Nat) (h : i < s.length) : nval (s.take (i + 1)) = 10 * nval (s.take i) + (s[i].toNat - 48) := by
  rw [List.take_succ_eq_append_getElem h, nval_app]
theorem numV_below {n : Nat} {s : List UInt8} {v : Value} (h : NumV s v) : VBelow n v := by
  by_cases hx : ∃ k : Nat, k < 100000000 ∧ s = dec k
  · obtain ⟨k, h1, h2⟩ := hx
    rw [h.1 k h1 h2]; exact vb_tup2 .int .bool
  · rw [h.2 fun k h1 h2 => hx ⟨k, h1, h2⟩]; exact vb_tup2 .int .bool
theorem rnumber_ok (s : List UInt8) (h : Heap) : ACalls Tryz.prog 72 [.string (bs s)] h fun v h' => NumV s v ∧ h' = h := by
  refine ACalls.same' (fun v q => numV_below q) (acalls_of mix Tryz.func72 k72 n72 (by simp) fun hcl hb => ?_)
  have eH : h.Ext h := Heap.Ext.refl h
  simp only [c72, s_seq, s_ops]
  by_cases h0 : s = []
  · have hb := num_bad (s := s) (.inl h0)
    have hl0 : s.length = 0 := by rw [h0]; rfl
    simp [bs_size, hl0]
    exact ⟨hb, eH⟩
  have hl0 : ¬ s.length = 0 := fun q => h0 (List.length_eq_zero_iff.1 q)
  have hl0' : ¬ (s.length : Int) = 0 := by omega
  by_cases h8 : 8 < s.length
  · have hb := num_bad (s := s) (.inr (.inl h8))
    have h8' : (8 : Int) < (s.length : Int) := by omega
    simp [bs_size, hl0, h0, h8']
    exact ⟨hb, eH⟩
  have h8' : ¬ (8 : Int) < (s.length : Int) := by omega
  have i0 : aidx (.int .i64 0) s.length = some 0 := aidx_of (i := 0) (by omega)
  by_cases h1 : 1 < s.length
  · have h1' : (1 : Int) < (s.length : Int) := by omega
    have g0 : s[0]? = some (s[0]'(by omega)) := List.getElem?_eq_getElem (by omega)
    have hh : s.head? = some (s[0]'(by omega)) := by rw [List.head?_eq_getElem?]; exact g0
    generalize hx : s[0]'(by omega) = x at *
    by_cases hx48 : x = 48
    · have hb := num_bad (s := s) (.inr (.inr (.inl ⟨h1, by rw [hh, hx48]⟩)))
      subst hx48
      simp [bs_size, bs_data, hl0, h0, h8', h1, h1', i0, g0, hx]
      exact ⟨hb, eH⟩
    · have hx' : ¬ (x.toNat : Int) = 48 := fun q => hx48 (UInt8.toNat_inj.1 (by show x.toNat = 48; omega))
      have hx'' : ¬ x.toNat = 48 := fun q => hx48 (UInt8.toNat_inj.1 q)
      have hz : ¬ (1 < s.length ∧ s.head? = some 48) := fun q => hx48 (by rw [hh] at q; exact Option.some.inj q.2)
      simp [bs_size, bs_data, hl0, h0, h8', h1, h1', i0, g0, hx, hx', hx'', hx48]
      refine awp_loop_of (α := KS2) (fun z => z.i ≤ s.length ∧ ∀ c ∈ s.take z.i, isDig c) (fun z => [(0, .string (bs s)), (4, .int .i64 (nval (s.take z.i) : Nat)), (5, .int .i64 z.i)]) (fun _ => h) (fun z => s.length - z.i) ⟨0⟩
        ⟨Nat.zero_le _, by simp⟩ (Heap.Sub.refl hcl) (by simp [nval]; exact ⟨.string, .int⟩) ?_
      rintro ⟨i⟩ ⟨hi, hdg⟩
      dsimp only at hi hdg ⊢
      by_cases hlt : i < s.length
      · have hi' : (i : Int) < (s.length : Int) := by omega
        have w4 : IntKind.i64.wrap ((i : Int) + 1) = ((i + 1 : Nat) : Int) := w1 i (by omega)
        have g1 : s[i]? = some s[i] := List.getElem?_eq_getElem hlt
        have iX : aidx (.int .i64 (i : Int)) s.length = some i := aidx_of hlt
        have hvs := nval_snoc' s i hlt
        have hnv := (digN_nval (s.take i) hdg).2
        have hnv8 : nval (s.take i) < 100000000 := by
          have h8p : (10 : Nat) ^ (s.take i).length ≤ 10 ^ 8 := Nat.pow_le_pow_right (by decide) (by rw [List.length_take]; omega)
          have h8e : (10 : Nat) ^ 8 = 100000000 := by decide
          omega
        have htk : s.take (i + 1) = s.take i ++ [s[i]] := List.take_succ_eq_append_getElem hlt
        have hmem : s[i] ∈ s := List.getElem_mem hlt
        generalize hc : s[i] = c at *
        have hcl8 := c.toNat_lt
        generalize nval (s.take i) = N at *
        by_cases h3 : c.toNat < 48
        · have h3' : (c.toNat : Int) < 48 := by omega
          have hb := num_bad (s := s) (.inr (.inr (.inr ⟨c, hmem, fun q => by unfold isDig at q; omega⟩)))
          simp [c72_0, hi', bs_size, bs_data, iX, g1, hc, h3, h3']
          exact ⟨hb, eH⟩
        · have h3' : ¬ (c.toNat : Int) < 48 := by omega
          by_cases h4 : 57 < c.toNat
          · have h4' : (57 : Int) < (c.toNat : Int) := by omega
            have hb := num_bad (s := s) (.inr (.inr (.inr ⟨c, hmem, fun q => by unfold isDig at q; omega⟩)))
            simp [c72_0, hi', bs_size, bs_data, iX, g1, hc, h3, h3', h4, h4']
            exact ⟨hb, eH⟩
          · have h4' : ¬ (57 : Int) < (c.toNat : Int) := by omega
            have m1 : IntKind.i64.wrap (10 * (N : Int)) = ((10 * N : Nat) : Int) := by rw [IntWalk.i64_in _ (by omega)]; omega
            have m2 : IntKind.i64.wrap (c.toNat : Int) = (c.toNat : Int) := i64w _ (by omega)
            have m3 : IntKind.i64.wrap (((10 * N : Nat) : Int) + (c.toNat : Int)) = ((10 * N + c.toNat : Nat) : Int) := by rw [IntWalk.i64_in _ (by omega)]; omega
            have m4 : IntKind.i64.wrap (((10 * N + c.toNat : Nat) : Int) - 48) = ((10 * N + (c.toNat - 48) : Nat) : Int) := by rw [IntWalk.i64_in _ (by omega)]; omega
            simp [c72_0, hi', bs_size, bs_data, iX, g1, hc, h3, h3', h4, h4', m1, m2, m3, m4, w4, -Int.natCast_add, -Int.natCast_mul]
            exact ⟨⟨i + 1⟩, by show s.length - (i + 1) < s.length - i; omega, ⟨by show i + 1 ≤ s.length; omega, fun d hd => by
              have hd' : d ∈ s.take (i + 1) := hd
              rw [htk] at hd'
              rcases List.mem_append.1 hd' with q | q
              · exact hdg d q
              · rw [List.mem_singleton.1 q]; unfold isDig; omega⟩, Heap.Sub.refl hcl, .string, ⟨by show _ = ((nval (s.take (i + 1)) : Nat) : Int); rw [hvs], .int⟩, rfl, .int⟩
      · have hie : i = s.length := by omega
        have hi' : ¬ (i : Int) < (s.length : Int) := by omega
        have htk : s.take i = s := List.take_of_length_le (by omega)
        rw [htk] at hdg ⊢
        have hg := num_good (s := s) hdg h0 (by omega) hz
        simp [c72_0, hi', bs_size, -Int.natCast_add]
        exact ⟨hg, eH⟩
  · have h1' : ¬ (1 : Int) < (s.length : Int) := by omega
    have hz : ¬ (1 < s.length ∧ s.head? = some 48) := fun q => h1 q.1
    simp [bs_size, bs_data, hl0, h0, h8', h1, h1']
    refine awp_loop_of (α := KS2) (fun z => z.i ≤ s.length ∧ ∀ c ∈ s.take z.i, isDig c) (fun z => [(0, .string (bs s)), (4, .int .i64 (nval (s.take z.i) : Nat)), (5, .int .i64 z.i)]) (fun _ => h) (fun z => s.length - z.i) ⟨0⟩
      ⟨Nat.zero_le _, by simp⟩ (Heap.Sub.refl hcl) (by simp [nval]; exact ⟨.string, .int⟩) ?_
    rintro ⟨i⟩ ⟨hi, hdg⟩
    dsimp only at hi hdg ⊢
    by_cases hlt : i < s.length
    · have hi' : (i : Int) < (s.length : Int) := by omega
      have w4 : IntKind.i64.wrap ((i : Int) + 1) = ((i + 1 : Nat) : Int) := w1 i (by omega)
      have g1 : s[i]? = some s[i] := List.getElem?_eq_getElem hlt
      have iX : aidx (.int .i64 (i : Int)) s.length = some i := aidx_of hlt
      have hvs := nval_snoc' s i hlt
      have hnv := (digN_nval (s.take i) hdg).2
      have hnv8 : nval (s.take i) < 100000000 := by
        have h8p : (10 : Nat) ^ (s.take i).length ≤ 10 ^ 8 := Nat.pow_le_pow_right (by decide) (by rw [List.length_take]; omega)
        have h8e : (10 : Nat) ^ 8 = 100000000 := by decide
        omega
      have htk : s.take (i + 1) = s.take i ++ [s[i]] := List.take_succ_eq_append_getElem hlt
      have hmem : s[i] ∈ s := List.getElem_mem hlt
      generalize hc : s[i] = c at *
      have hcl8 := c.toNat_lt
      generalize nval (s.take i) = N at *
      by_cases h3 : c.toNat < 48
      · have h3' : (c.toNat : Int) < 48 := by omega
        have hb := num_bad (s := s) (.inr (.inr (.inr ⟨c, hmem, fun q => by unfold isDig at q; omega⟩)))
        simp [c72_0, hi', bs_size, bs_data, iX, g1, hc, h3, h3']
        exact ⟨hb, eH⟩
      · have h3' : ¬ (c.toNat : Int) < 48 := by omega
        by_cases h4 : 57 < c.toNat
        · have h4' : (57 : Int) < (c.toNat : Int) := by omega
          have hb := num_bad (s := s) (.inr (.inr (.inr ⟨c, hmem, fun q => by unfold isDig at q; omega⟩)))
          simp [c72_0, hi', bs_size, bs_data, iX, g1, hc, h3, h3', h4, h4']
          exact ⟨hb, eH⟩
        · have h4' : ¬ (57 : Int) < (c.toNat : Int) := by omega
          have m1 : IntKind.i64.wrap (10 * (N : Int)) = ((10 * N : Nat) : Int) := by rw [IntWalk.i64_in _ (by omega)]; omega
          have m2 : IntKind.i64.wrap (c.toNat : Int) = (c.toNat : Int) := i64w _ (by omega)
          have m3 : IntKind.i64.wrap (((10 * N : Nat) : Int) + (c.toNat : Int)) = ((10 * N + c.toNat : Nat) : Int) := by rw [IntWalk.i64_in _ (by omega)]; omega
          have m4 : IntKind.i64.wrap (((10 * N + c.toNat : Nat) : Int) - 48) = ((10 * N + (c.toNat - 48) : Nat) : Int) := by rw [IntWalk.i64_in _ (by omega)]; omega
          simp [c72_0, hi', bs_size, bs_data, iX, g1, hc, h3, h3', h4, h4', m1, m2, m3, m4, w4, -Int.natCast_add, -Int.natCast_mul]
          exact ⟨⟨i + 1⟩, by show s.length - (i + 1) < s.length - i; omega, ⟨by show i + 1 ≤ s.length; omega, fun d hd => by
            have hd' : d ∈ s.take (i + 1) := hd
            rw [htk] at hd'
            rcases List.mem_append.1 hd' with q | q
            · exact hdg d q
            · rw [List.mem_singleton.1 q]; unfold isDig; omega⟩, Heap.Sub.refl hcl, .string, ⟨by show _ = ((nval (s.take (i + 1)) : Nat) : Int); rw [hvs], .int⟩, rfl, .int⟩
    · have hie : i = s.length := by omega
      have hi' : ¬ (i : Int) < (s.length : Int) := by omega
      have htk : s.take i = s := List.take_of_length_le (by omega)
      rw [htk] at hdg ⊢
      have hg := num_good (s := s) hdg h0 (by omega) hz
      simp [c72_0, hi', bs_size, -Int.natCast_add]
      exact ⟨hg, eH⟩
theorem rdigit_ok (c : UInt8) (h : Heap) : ACalls Tryz.prog 73 [.int .u8 (c.toNat : Int)] h fun v h' => v = .int .i64 (pv c) ∧ h' = h := by
  refine ACalls.same .int (acalls_of mix Tryz.func73 k73 n73 (by simp) fun hcl hb => ?_)
  rw [← dig16_pv]
  have hc := c.toNat_lt
  have w : IntKind.i64.wrap (c.toNat : Int) = (c.toNat : Int) := i64w _ (by omega)
  have eH : h.Ext h := Heap.Ext.refl h
  unfold dig16
  by_cases h1 : 48 ≤ c.toNat
  · have h1' : (48 : Int) ≤ (c.toNat : Int) := by omega
    by_cases h2 : c.toNat ≤ 57
    · have h2' : (c.toNat : Int) ≤ 57 := by omega
      have w2 : IntKind.i64.wrap ((c.toNat : Int) - 48) = (c.toNat : Int) - 48 := IntWalk.i64_in _ (by omega)
      simp [c73, h1, h1', h2, h2', w, w2]
      exact eH
    · have h2' : ¬ (c.toNat : Int) ≤ 57 := by omega
      by_cases h3 : 97 ≤ c.toNat
      · have h3' : (97 : Int) ≤ (c.toNat : Int) := by omega
        by_cases h4 : c.toNat ≤ 102
        · have h4' : (c.toNat : Int) ≤ 102 := by omega
          have w2 : IntKind.i64.wrap ((c.toNat : Int) - 87) = (c.toNat : Int) - 87 := IntWalk.i64_in _ (by omega)
          simp [c73, h1, h1', h2, h2', h3, h3', h4, h4', w, w2]
          exact eH
        · have h4' : ¬ (c.toNat : Int) ≤ 102 := by omega
          simp [c73, h1, h1', h2, h2', h3, h3', h4, h4', w]
          exact eH
      · have h3' : ¬ (97 : Int) ≤ (c.toNat : Int) := by omega
        simp [c73, h1, h1', h2, h2', h3, h3', w]
        exact eH
  · have h1' : ¬ (48 : Int) ≤ (c.toNat : Int) := by omega
    have h3 : ¬ 97 ≤ c.toNat := by omega
    have h3' : ¬ (97 : Int) ≤ (c.toNat : Int) := by omega
    simp [c73, h1, h1', h3, h3', w]
    exact eH

def c34_0 : AC := .seq (.seq (.ops [⟨some 99,none,.mv (.tmp 15)⟩,⟨some 100,none,.bin .lss (.tmp 99) (.const (.int .i64 32))⟩]) (.cond (.tmp 100) .skip (.exit 0))) (.seq (.block 1 (.seq (.draw [([⟨some 103,none,.mv (.tmp 10)⟩,⟨some 104,none,.mv (.tmp 15)⟩,⟨some 105,none,.bin .mul (.const (.int .i64 2)) (.tmp 104)⟩,⟨some 106,none,.iStr (.tmp 103) (.tmp 105)⟩,⟨some 108,none,.mv (.tmp 10)⟩,⟨some 109,none,.mv (.tmp 15)⟩,⟨some 110,none,.bin .mul (.const (.int .i64 2)) (.tmp 109)⟩,⟨some 111,none,.bin .add (.tmp 110) (.const (.int .i64 1))⟩,⟨some 112,none,.iStr (.tmp 108) (.tmp 111)⟩],[⟨some 107,none,.call 73 [.tmp 106]⟩],[]),([],[⟨some 113,none,.call 73 [.tmp 112]⟩],[]),([⟨some 16,none,.mv (.tmp 107)⟩,⟨some 17,none,.mv (.tmp 113)⟩],[],[])]) (.seq (.seq (.ops [⟨some 114,none,.mv (.tmp 16)⟩,⟨some 115,none,.bin .lss (.tmp 114) (.const (.int .i64 0))⟩,⟨some 116,none,.mv (.tmp 115)⟩,⟨some 117,some (116,false),.mv (.tmp 17)⟩,⟨some 118,some (116,false),.bin .lss (.tmp 117) (.const (.int .i64 0))⟩,⟨some 119,none,.pick (.tmp 116) (.const (.bool true)) (.tmp 118)⟩]) (.cond (.tmp 119) (.seq (.ops [⟨some 120,none,.load (some 36) (.tmp 4)⟩,⟨none,none,.store 36 (.tmp 2) (.tmp 120)⟩,⟨some 3,none,.mv (.const (.int .i64 6))⟩]) .ret) .skip)) (.ops [⟨some 121,none,.mv (.tmp 15)⟩,⟨some 122,none,.mv (.tmp 16)⟩,⟨some 123,none,.bin .mul (.const (.int .i64 16)) (.tmp 122)⟩,⟨some 124,none,.mv (.tmp 17)⟩,⟨some 125,none,.bin .add (.tmp 123) (.tmp 124)⟩,⟨some 126,none,.toInt .u8 (.tmp 125)⟩,⟨some 127,none,.iAddrA 32 1 (.tmp 14) (.tmp 121)⟩,⟨none,none,.store 1 (.tmp 127) (.tmp 126)⟩])))) (.ops [⟨some 101,none,.mv (.tmp 15)⟩,⟨some 102,none,.bin .add (.tmp 101) (.const (.int .i64 1))⟩,⟨some 15,none,.mv (.tmp 102)⟩]))
def c34 : AC := .seq (.ops [⟨some 2,none,.alloc z36⟩,⟨some 3,none,.mv (.const (.int .i64 0))⟩]) (.seq (.ops [⟨some 18,none,.build z36 []⟩,⟨some 4,none,.alloc z36⟩,⟨none,none,.store 36 (.tmp 4) (.tmp 18)⟩]) (.seq (.seq (.ops [⟨some 19,none,.mv (.tmp 0)⟩,⟨some 20,none,.lenS true (.tmp 19)⟩,⟨some 21,none,.bin .gtr (.tmp 20) (.const (.int .i64 160))⟩]) (.cond (.tmp 21) (.seq (.ops [⟨some 22,none,.load (some 36) (.tmp 4)⟩,⟨none,none,.store 36 (.tmp 2) (.tmp 22)⟩,⟨some 3,none,.mv (.const (.int .i64 12))⟩]) .ret) .skip)) (.seq (.ops [⟨some 24,none,.mv (.tmp 0)⟩,⟨some 25,none,.call 69 [.tmp 24,.const (.string ⟨⟨[84,82,73,80,84,89,67,72,10,118,101,114,115,105,111,110,32]⟩⟩)]⟩,⟨some 23,none,.mv (.tmp 25)⟩,⟨some 26,none,.extr (.tmp 23) 0⟩,⟨some 27,none,.extr (.tmp 23) 1⟩,⟨some 0,none,.mv (.tmp 26)⟩,⟨some 5,none,.mv (.tmp 27)⟩]) (.seq (.seq (.ops [⟨some 28,none,.mv (.tmp 5)⟩,⟨some 29,none,.un .not (.tmp 28)⟩]) (.cond (.tmp 29) (.seq (.ops [⟨some 30,none,.load (some 36) (.tmp 4)⟩,⟨none,none,.store 36 (.tmp 2) (.tmp 30)⟩,⟨some 3,none,.mv (.const (.int .i64 6))⟩]) .ret) .skip)) (.seq (.ops [⟨some 32,none,.mv (.tmp 0)⟩,⟨some 33,none,.call 70 [.tmp 32]⟩,⟨some 31,none,.mv (.tmp 33)⟩,⟨some 34,none,.extr (.tmp 31) 0⟩,⟨some 35,none,.extr (.tmp 31) 1⟩,⟨some 36,none,.extr (.tmp 31) 2⟩,⟨some 6,none,.mv (.tmp 34)⟩,⟨some 0,none,.mv (.tmp 35)⟩,⟨some 5,none,.mv (.tmp 36)⟩]) (.seq (.ops [⟨some 38,none,.mv (.tmp 6)⟩,⟨some 39,none,.call 71 [.tmp 38]⟩,⟨some 37,none,.mv (.tmp 39)⟩,⟨some 40,none,.extr (.tmp 37) 0⟩,⟨some 41,none,.extr (.tmp 37) 1⟩,⟨some 7,none,.alloc [.int .i64 0,.int .i64 0,.int .i64 0]⟩,⟨none,none,.store 3 (.tmp 7) (.tmp 40)⟩,⟨some 8,none,.mv (.tmp 41)⟩]) (.seq (.seq (.ops [⟨some 42,none,.mv (.tmp 5)⟩,⟨some 43,none,.un .not (.tmp 42)⟩,⟨some 44,none,.mv (.tmp 43)⟩,⟨some 45,some (44,false),.mv (.tmp 8)⟩,⟨some 46,some (44,false),.un .not (.tmp 45)⟩,⟨some 47,none,.pick (.tmp 44) (.const (.bool true)) (.tmp 46)⟩]) (.cond (.tmp 47) (.seq (.ops [⟨some 48,none,.load (some 36) (.tmp 4)⟩,⟨none,none,.store 36 (.tmp 2) (.tmp 48)⟩,⟨some 3,none,.mv (.const (.int .i64 6))⟩]) .ret) .skip)) (.seq (.ops [⟨some 50,none,.mv (.tmp 0)⟩,⟨some 51,none,.call 69 [.tmp 50,.const (.string ⟨⟨[108,101,110,103,116,104,32]⟩⟩)]⟩,⟨some 49,none,.mv (.tmp 51)⟩,⟨some 52,none,.extr (.tmp 49) 0⟩,⟨some 53,none,.extr (.tmp 49) 1⟩,⟨some 0,none,.mv (.tmp 52)⟩,⟨some 5,none,.mv (.tmp 53)⟩]) (.seq (.ops [⟨some 55,none,.mv (.tmp 0)⟩,⟨some 56,none,.call 70 [.tmp 55]⟩,⟨some 54,none,.mv (.tmp 56)⟩,⟨some 57,none,.extr (.tmp 54) 0⟩,⟨some 58,none,.extr (.tmp 54) 1⟩,⟨some 59,none,.extr (.tmp 54) 2⟩,⟨some 9,none,.mv (.tmp 57)⟩,⟨some 10,none,.mv (.tmp 58)⟩,⟨some 11,none,.mv (.tmp 59)⟩]) (.seq (.ops [⟨some 61,none,.mv (.tmp 9)⟩,⟨some 62,none,.call 72 [.tmp 61]⟩,⟨some 60,none,.mv (.tmp 62)⟩,⟨some 63,none,.extr (.tmp 60) 0⟩,⟨some 64,none,.extr (.tmp 60) 1⟩,⟨some 12,none,.mv (.tmp 63)⟩,⟨some 13,none,.mv (.tmp 64)⟩]) (.seq (.seq (.ops [⟨some 65,none,.mv (.tmp 5)⟩,⟨some 66,none,.un .not (.tmp 65)⟩,⟨some 67,none,.mv (.tmp 66)⟩,⟨some 68,some (67,false),.mv (.tmp 11)⟩,⟨some 69,some (67,false),.un .not (.tmp 68)⟩,⟨some 70,none,.pick (.tmp 67) (.const (.bool true)) (.tmp 69)⟩,⟨some 71,none,.mv (.tmp 70)⟩,⟨some 72,some (71,false),.mv (.tmp 13)⟩,⟨some 73,some (71,false),.un .not (.tmp 72)⟩,⟨some 74,none,.pick (.tmp 71) (.const (.bool true)) (.tmp 73)⟩,⟨some 75,none,.mv (.tmp 74)⟩,⟨some 76,some (75,false),.mv (.tmp 12)⟩,⟨some 77,some (75,false),.bin .gtr (.tmp 76) (.const (.int .i64 16777215))⟩,⟨some 78,none,.pick (.tmp 75) (.const (.bool true)) (.tmp 77)⟩]) (.cond (.tmp 78) (.seq (.ops [⟨some 79,none,.load (some 36) (.tmp 4)⟩,⟨none,none,.store 36 (.tmp 2) (.tmp 79)⟩,⟨some 3,none,.mv (.const (.int .i64 6))⟩]) .ret) .skip)) (.seq (.ops [⟨some 81,none,.mv (.tmp 10)⟩,⟨some 82,none,.call 69 [.tmp 81,.const (.string ⟨⟨[115,104,97,50,53,54,32]⟩⟩)]⟩,⟨some 80,none,.mv (.tmp 82)⟩,⟨some 83,none,.extr (.tmp 80) 0⟩,⟨some 84,none,.extr (.tmp 80) 1⟩,⟨some 10,none,.mv (.tmp 83)⟩,⟨some 5,none,.mv (.tmp 84)⟩]) (.seq (.seq (.ops [⟨some 85,none,.mv (.tmp 5)⟩,⟨some 86,none,.un .not (.tmp 85)⟩,⟨some 87,none,.mv (.tmp 86)⟩,⟨some 88,some (87,false),.mv (.tmp 10)⟩,⟨some 89,some (87,false),.lenS true (.tmp 88)⟩,⟨some 90,some (87,false),.bin .neq (.tmp 89) (.const (.int .i64 66))⟩,⟨some 91,none,.pick (.tmp 87) (.const (.bool true)) (.tmp 90)⟩,⟨some 92,none,.mv (.tmp 91)⟩,⟨some 93,some (92,false),.mv (.tmp 10)⟩,⟨some 94,some (92,false),.slS (.tmp 93) (some (.const (.int .i64 64))) none⟩,⟨some 95,some (92,false),.bin .neq (.tmp 94) (.const (.string ⟨⟨[10,10]⟩⟩))⟩,⟨some 96,none,.pick (.tmp 92) (.const (.bool true)) (.tmp 95)⟩]) (.cond (.tmp 96) (.seq (.ops [⟨some 97,none,.load (some 36) (.tmp 4)⟩,⟨none,none,.store 36 (.tmp 2) (.tmp 97)⟩,⟨some 3,none,.mv (.const (.int .i64 6))⟩]) .ret) .skip)) (.seq (.ops [⟨some 98,none,.build (zl .u8 32) []⟩,⟨some 14,none,.alloc (zl .u8 32)⟩,⟨none,none,.store 32 (.tmp 14) (.tmp 98)⟩]) (.seq (.seq (.ops [⟨some 15,none,.mv (.const (.int .i64 0))⟩]) (.block 0 (.loop c34_0))) (.seq (.ops [⟨some 128,none,.load (some 3) (.tmp 7)⟩,⟨some 129,none,.mv (.tmp 12)⟩,⟨some 130,none,.load (some 32) (.tmp 14)⟩,⟨some 131,none,.build z36 [(0,3,.tmp 128),(3,1,.tmp 129),(4,32,.tmp 130)]⟩,⟨none,none,.store 36 (.tmp 2) (.tmp 131)⟩,⟨some 3,none,.mv (.const (.int .i64 0))⟩]) .ret))))))))))))))))
theorem k34 : compR Tryz.prog Tryz.f34 = some (c34, [.c 2 (some 36), .t 3]) := by kernel_rfl
theorem n34 : Tryz.f34.ntmps = 132 := by kernel_rfl
variable [Nonempty GM]
theorem cut_uniq {c : UInt8} : ∀ {a a' b b' : List UInt8}, c ∉ a → c ∉ a' → a ++ c :: b = a' ++ c :: b' → a = a' ∧ b = b'
  | [], [], b, b', _, _, e => by simpa using e
  | [], x :: r, b, b', _, h2, e => by
    simp at e h2
    exact absurd e.1 h2.1
  | x :: r, [], b, b', h1, _, e => by
    simp at e h1
    exact absurd e.1.symm h1.1
  | x :: r, x' :: r', b, b', h1, h2, e => by
    simp at e h1 h2
    obtain ⟨q1, q2⟩ := cut_uniq (a := r) (a' := r') h1.2 h2.2 e.2
    exact ⟨by rw [e.1, q1], q2⟩
theorem hex_pB (s : List UInt8) (h : hexOk s) : ∀ i, i ≤ 32 → hexB (pB s i) = s.take (2 * i)
  | 0, _ => by simp [pB, hexB]
  | i + 1, hi => by
    have h1 := pv_ok _ (h.2 (2 * i) (by omega))
    have h2 := pv_ok _ (h.2 (2 * i + 1) (by omega))
    have n1 := h.2 (2 * i) (by omega)
    have n2 := h.2 (2 * i + 1) (by omega)
    have hl := h.1
    have t : s.take (2 * (i + 1)) = s.take (2 * i) ++ [s.getD (2 * i) 0] ++ [s.getD (2 * i + 1) 0] := by
      rw [show 2 * (i + 1) = 2 * i + 1 + 1 by omega, List.take_succ_eq_append_getElem (by omega), List.take_succ_eq_append_getElem (by omega)]
      simp [List.getD, show 2 * i < s.length by omega, show 2 * i + 1 < s.length by omega]
    rw [pB, hexB_app, hex_pB s h i (by omega), t]
    generalize s.getD (2 * i) 0 = ca at *
    generalize s.getD (2 * i + 1) 0 = cb at *
    obtain ⟨u, hu⟩ : ∃ u : Nat, pv ca = u := ⟨(pv ca).toNat, by omega⟩
    obtain ⟨w, hw⟩ : ∃ w : Nat, pv cb = w := ⟨(pv cb).toNat, by omega⟩
    rw [hu] at h1
    rw [hw] at h2
    rw [hu, hw]
    simp only [Int.toNat_natCast] at h1 h2 ⊢
    have e : (UInt8.ofNat (16 * u + w)).toNat = 16 * u + w := by simp; omega
    have e1 : hexB [UInt8.ofNat (16 * u + w)] = [dg ((UInt8.ofNat (16 * u + w)).toNat / 16), dg ((UInt8.ofNat (16 * u + w)).toNat % 16)] := rfl
    rw [e1, e, show (16 * u + w) / 16 = u by omega, show (16 * u + w) % 16 = w by omega, h1.2, h2.2]
    simp
theorem hex_parse (s : List UInt8) (h : hexOk s) : hexB (pB s 32) = s := by
  rw [hex_pB s h 32 (by omega), List.take_of_length_le (by rw [h.1]; omega)]
theorem pB_take (t : List UInt8) (n : Nat) : ∀ i, 2 * i ≤ n → pB (t.take n) i = pB t i
  | 0, _ => rfl
  | i + 1, h => by
    have g : ∀ k, k < n → (t.take n).getD k 0 = t.getD k 0 := fun k hk => by
      rw [List.getD, List.getD, List.getElem?_take_of_lt hk]
    rw [pB, pB, pB_take t n i (by omega), g _ (by omega), g _ (by omega)]
theorem hex_of {t : List UInt8} (hl : t.length = 66) (hd : ∀ j, j < 64 → 0 ≤ pv (t.getD j 0)) (h2 : t.drop 64 = [10, 10]) : t = hexB (pB t 32) ++ [10, 10] := by
  have hok : hexOk (t.take 64) := by
    refine ⟨by rw [List.length_take]; omega, fun i hi => ?_⟩
    rw [List.getD, List.getElem?_take_of_lt hi]
    exact hd i hi
  have h3 := hex_parse (t.take 64) hok
  rw [pB_take t 64 32 (by omega)] at h3
  rw [h3, ← h2, List.take_append_drop]
theorem rparse_ok (s : List UInt8) (hs : s.length ≤ 1000000) (h : Heap) : ACalls Tryz.prog 34 [.string (bs s)] h fun v h' => PM s v ∧ h' = h := by
  refine ACalls.same' (fun v q => q.below) (acalls_ofR mix Tryz.func34 k34 n34 (by simp) fun hcl hb => ?_)
  have hzl : zH.hs.length = 32 := z32_len
  have hac : ∀ x : Hd, x.hs.length = 32 → acut (hc x) 0 36 = some (hc x) := fun x hx => acut_full (hc_len hx)
  have haz := hac zH hzl
  have hfz : afill (hc zH) [] = some (hc zH) := rfl
  have hlz := hc_len hzl
  have hpx : ∀ z : Hd, z.hs.length = 32 → aput (hc zH) 0 (hc z) = hc z := fun z hz => by
    unfold aput
    rw [hc_len hz, List.drop_eq_nil_of_le (by rw [hlz]; omega)]
    simp
  have hpz := hpx zH hzl
  have c0 : (h.push (.cells (hc zH) .ex 1)).Closed := closed_push hcl hc_bel
  have c1 : ((h.push (.cells (hc zH) .ex 1)).push (.cells (hc zH) .ex 1)).Closed := closed_push c0 hc_bel
  have e1 := ((Heap.Ext.refl h).push hcl (.cells (hc zH) .ex 1)).push hcl (.cells (hc zH) .ex 1)
  have f0 : ((h.push (.cells (hc zH) .ex 1)).push (.cells (hc zH) .ex 1)).cellsOf h.n = some (hc zH, .ex, 1) := by rw [cellsOf_ne (by show ¬ h.n = h.n + 1; omega)]; exact cellsOf_new _ _ _ _
  have f1 : ((h.push (.cells (hc zH) .ex 1)).push (.cells (hc zH) .ex 1)).cellsOf (h.n + 1) = some (hc zH, .ex, 1) := cellsOf_new (h.push (.cells (hc zH) .ex 1)) _ _ _
  have s1' : ((h.push (.cells (hc zH) .ex 1)).push (.cells (hc zH) .ex 1)).set (h.n + 1) (.cells (hc zH) .ex 1) = (h.push (.cells (hc zH) .ex 1)).push (.cells (hc zH) .ex 1) := set_same (m_of_cells f1)
  have n1 : ((h.push (.cells (hc zH) .ex 1)).push (.cells (hc zH) .ex 1)).n = h.n + 2 := rfl
  have hno1 : ∀ y : Hd, (s = mText y) → s.take mP.length = mP ∧ s.drop mP.length = vtext y.a y.b y.c ++ 10 :: (lP ++ (itoaB y.n ++ 10 :: (sP ++ (hexB y.hs ++ [10, 10])))) := fun y q => by
    rw [q, mText_parts]
    exact ⟨List.take_left, List.drop_left⟩
  simp only [c34, s_seq, s_ops]
  simp [z36_eq, hfz, m_hc, hlz, f1, hpz, s1', bs_size]
  generalize (h.push (.cells (hc zH) .ex 1)).push (.cells (hc zH) .ex 1) = H1 at *
  have bad : 160 < s.length ∨ (∀ y : Hd, rightH y → y.hs.length = 32 → s ≠ mText y) → ∀ k : Int, k = (if 160 < s.length then 12 else 6) → PM s (.tuple #[hv zH, .int .i64 k]) := fun q k hk => by
    refine ⟨fun y r1 r2 r3 => ?_, fun _ => by rw [hk]⟩
    rcases q with q | q
    · have := mText_len r2 r1
      rw [r3] at q; omega
    · exact absurd r3 (q y r1 r2)
  by_cases h160 : 160 < s.length
  · have h160' : (160 : Int) < (s.length : Int) := by omega
    have hb := bad (.inl h160) 12 (by rw [if_pos h160])
    simp [h160', f1, haz, m_hc, hlz, f0, hpz, cellsOf_set, apart]
    exact ⟨hb, Heap.Ext.setNew e1 hcl (Nat.le_refl _) _⟩
  have h160' : ¬ (160 : Int) < (s.length : Int) := by omega
  have bad6 : (∀ y : Hd, rightH y → y.hs.length = 32 → s ≠ mText y) → PM s (.tuple #[hv zH, .int .i64 6]) := fun q => bad (.inr q) 6 (by rw [if_neg h160])
  clear bad
  have hmP : (⟨⟨[84, 82, 73, 80, 84, 89, 67, 72, 10, 118, 101, 114, 115, 105, 111, 110, 32]⟩⟩ : ByteArray) = bs mP := rfl
  have hlP : (⟨⟨[108, 101, 110, 103, 116, 104, 32]⟩⟩ : ByteArray) = bs lP := rfl
  have hsP : (⟨⟨[115, 104, 97, 50, 53, 54, 32]⟩⟩ : ByteArray) = bs sP := rfl
  have hsv : ∀ l, sv l = .string (bs l) := fun _ => rfl
  simp [h160', hmP]
  refine (after_ok s mP H1).mono ?_
  rintro _ h9 ⟨rfl, e⟩
  rw [e]; clear e h9
  by_cases p1 : s.take mP.length = mP
  case neg =>
    have hb := bad6 fun y r1 r2 r3 => p1 (hno1 y r3).1
    simp [aun, p1, f1, haz, m_hc, hlz, f0, hpz, cellsOf_set, apart]
    exact ⟨hb, Heap.Ext.setNew e1 hcl (Nat.le_refl _) _⟩
  have hs1 : s = mP ++ s.drop mP.length := by
    have := List.take_append_drop mP.length s
    rw [p1] at this; exact this.symm
  have hl1 : (s.drop mP.length).length ≤ s.length := by rw [List.length_drop]; omega
  have hno2 := fun y q => (hno1 y q).2
  clear hno1
  simp [aun, p1, hsv]
  generalize s.drop mP.length = s1 at *
  refine (rline_ok s1 (by omega) H1).mono ?_
  rintro v9 h9 ⟨hv9, e⟩
  rw [e]; clear e h9
  have bad2 : (∀ y : Hd, rightH y → y.hs.length = 32 → s ≠ mText y) → PM s (.tuple #[hv zH, .int .i64 6]) := bad6
  -- the version's word
  obtain ⟨a, b, ok1, rfl, hab⟩ : ∃ a b ok1, v9 = .tuple #[sv a, sv b, .bool ok1] ∧ ((ok1 = true ∧ s1 = a ++ 10 :: b ∧ (10 : UInt8) ∉ a) ∨ (ok1 = false ∧ (10 : UInt8) ∉ s1 ∧ a = [] ∧ b = [])) := by
    rcases hv9 with ⟨a, b, q1, q2, q3⟩ | ⟨q1, q2⟩
    · exact ⟨a, b, true, q3, .inl ⟨rfl, q1, q2⟩⟩
    · exact ⟨[], [], false, q2, .inr ⟨rfl, q1, rfl, rfl⟩⟩
  have hno3 : ∀ y : Hd, s = mText y → ok1 = true ∧ a = vtext y.a y.b y.c ∧ b = lP ++ (itoaB y.n ++ 10 :: (sP ++ (hexB y.hs ++ [10, 10]))) := fun y q => by
    have q2 := hno2 y q
    rcases hab with ⟨q3, q4, q5⟩ | ⟨q3, q4, _⟩
    · obtain ⟨r1, r2⟩ := cut_uniq q5 (vtext_no10 _ _ _) (q4.symm.trans q2)
      exact ⟨q3, r1, r2⟩
    · exact absurd (by rw [q2]; simp) q4
  have hla : a.length ≤ s1.length ∧ b.length ≤ s1.length := by
    rcases hab with ⟨_, q4, _⟩ | ⟨_, _, q4, q5⟩
    · rw [q4]; simp; omega
    · rw [q4, q5]; simp
  simp [hsv]
  refine (refParse_ok a (by omega) H1).mono ?_
  rintro vv h9 ⟨hvv, e⟩
  rw [e]; clear e h9
  obtain ⟨x, y, z, ok2, rfl, hver⟩ : ∃ x y z ok2, vv = .tuple #[.agg (iv x y z).toArray, .bool ok2] ∧ ((ok2 = true ∧ vOk x y z ∧ a = vtext x y z) ∨ (ok2 = false ∧ ∀ x y z, vOk x y z → a ≠ vtext x y z)) := by
    by_cases hx : ∃ x y z, vOk x y z ∧ a = vtext x y z
    · obtain ⟨x, y, z, q1, q2⟩ := hx
      exact ⟨x, y, z, true, hvv.1 x y z q1 q2, .inl ⟨rfl, q1, q2⟩⟩
    · exact ⟨0, 0, 0, false, hvv.2 fun x y z q1 q2 => hx ⟨x, y, z, q1, q2⟩, .inr ⟨rfl, fun x y z q1 q2 => hx ⟨x, y, z, q1, q2⟩⟩⟩
  have z3 : ([.int .i64 0, .int .i64 0, .int .i64 0] : List Value) = iv 0 0 0 := rfl
  have hl3 : ∀ x y z, (iv x y z).length = 3 := fun x y z => rfl
  have hp0 : aput (iv 0 0 0) 0 (iv x y z) = iv x y z := rfl
  have f2 := cellsOf_new H1 (iv x y z) .ex 1
  have f2z := cellsOf_new H1 (iv 0 0 0) .ex 1
  have c2 : (H1.push (.cells (iv x y z) .ex 1)).Closed := closed_push c1 iv_bel
  have e2 := e1.push hcl (.cells (iv x y z) .ex 1)
  have n2 : (H1.push (.cells (iv x y z) .ex 1)).n = h.n + 3 := by simp [n1]
  have f0' : (H1.push (.cells (iv x y z) .ex 1)).cellsOf h.n = some (hc zH, .ex, 1) := by rw [cellsOf_ne (by omega)]; exact f0
  have f1' : (H1.push (.cells (iv x y z) .ex 1)).cellsOf (h.n + 1) = some (hc zH, .ex, 1) := by rw [cellsOf_ne (by omega)]; exact f1
  simp [z3, f2z, mc_iv, hl3, hp0, set_push]
  rw [n1]
  rw [n1] at f2
  generalize H1.push (.cells (iv x y z) .ex 1) = H2 at *
  by_cases hk1 : ok1 = true ∧ ok2 = true
  case neg =>
    have hb := bad6 fun w r1 r2 r3 => by
      obtain ⟨q1, q2, _⟩ := hno3 w r3
      refine hk1 ⟨q1, ?_⟩
      rcases hver with ⟨q3, _⟩ | ⟨q3, q4⟩
      · exact q3
      · exact absurd q2 (q4 _ _ _ (right_v r1).1)
    have hS := Heap.Ext.setNew e2 hcl (Nat.le_refl _) (.cells (hc zH) .ex 1)
    cases ok1 with
    | false =>
      simp [aun, f1', haz, m_hc, hlz, f0', hpz, cellsOf_set, apart]
      exact ⟨hb, hS⟩
    | true =>
      cases ok2 with
      | false =>
        simp [aun, f1', haz, m_hc, hlz, f0', hpz, cellsOf_set, apart]
        exact ⟨hb, hS⟩
      | true => exact absurd ⟨rfl, rfl⟩ hk1
  obtain ⟨rfl, rfl⟩ := hk1
  obtain ⟨hs2, ha10⟩ : s1 = a ++ 10 :: b ∧ (10 : UInt8) ∉ a := by
    rcases hab with ⟨_, q⟩ | ⟨q, _⟩
    · exact q
    · cases q
  obtain ⟨hxyz, hax⟩ : vOk x y z ∧ a = vtext x y z := by
    rcases hver with ⟨_, q⟩ | ⟨q, _⟩
    · exact q
    · cases q
  clear hab hver hvv
  simp [aun, hlP]
  refine (after_ok b lP H2).mono ?_
  rintro _ h9 ⟨rfl, e⟩
  rw [e]; clear e h9
  simp [hsv]
  obtain ⟨s2, hs2d⟩ : ∃ s2, (if b.take lP.length = lP then b.drop lP.length else []) = s2 := ⟨_, rfl⟩
  have hls2 : s2.length ≤ b.length := by
    rw [← hs2d]; split
    · rw [List.length_drop]; omega
    · simp
  rw [hs2d]
  refine (rline_ok s2 (by omega) H2).mono ?_
  rintro v9 h9 ⟨hv9, e⟩
  rw [e]; clear e h9
  obtain ⟨a2, b2, ok3, rfl, hab2⟩ : ∃ a b ok, v9 = .tuple #[sv a, sv b, .bool ok] ∧ ((ok = true ∧ s2 = a ++ 10 :: b ∧ (10 : UInt8) ∉ a) ∨ (ok = false ∧ (10 : UInt8) ∉ s2 ∧ a = [] ∧ b = [])) := by
    rcases hv9 with ⟨a, b, q1, q2, q3⟩ | ⟨q1, q2⟩
    · exact ⟨a, b, true, q3, .inl ⟨rfl, q1, q2⟩⟩
    · exact ⟨[], [], false, q2, .inr ⟨rfl, q1, rfl, rfl⟩⟩
  have hno4 : ∀ y : Hd, s = mText y → b.take lP.length = lP ∧ ok3 = true ∧ a2 = itoaB y.n ∧ b2 = sP ++ (hexB y.hs ++ [10, 10]) := fun y q => by
    obtain ⟨_, _, q2⟩ := hno3 y q
    have t1 : b.take lP.length = lP := by rw [q2]; exact List.take_left
    have t2 : s2 = itoaB y.n ++ 10 :: (sP ++ (hexB y.hs ++ [10, 10])) := by
      rw [← hs2d, if_pos t1, q2]; exact List.drop_left
    rcases hab2 with ⟨q3, q4, q5⟩ | ⟨q3, q4, _⟩
    · obtain ⟨r1, r2⟩ := cut_uniq q5 (itoaB_no10 _) (q4.symm.trans t2)
      exact ⟨t1, q3, r1, r2⟩
    · exact absurd (by rw [t2]; simp) q4
  have hla2 : a2.length ≤ s2.length ∧ b2.length ≤ s2.length := by
    rcases hab2 with ⟨_, q4, _⟩ | ⟨_, _, q4, q5⟩
    · rw [q4]; simp; omega
    · rw [q4, q5]; simp
  simp [hsv]
  refine (rnumber_ok a2 H2).mono ?_
  rintro vv h9 ⟨hvv, e⟩
  rw [e]; clear e h9
  obtain ⟨N, ok4, rfl, hnum, hN8⟩ : ∃ N : Nat, ∃ ok4, vv = .tuple #[.int .i64 N, .bool ok4] ∧ ((ok4 = true ∧ a2 = dec N) ∨ (ok4 = false ∧ ∀ n : Nat, n < 100000000 → a2 ≠ dec n)) ∧ N < 100000000 := by
    by_cases hx : ∃ n : Nat, n < 100000000 ∧ a2 = dec n
    · obtain ⟨n, q1, q2⟩ := hx
      exact ⟨n, true, hvv.1 n q1 q2, .inl ⟨rfl, q2⟩, q1⟩
    · exact ⟨0, false, hvv.2 fun n q1 q2 => hx ⟨n, q1, q2⟩, .inr ⟨rfl, fun n q1 q2 => hx ⟨n, q1, q2⟩⟩, by decide⟩
  have hno5 : ∀ y : Hd, rightH y → s = mText y → ok4 = true ∧ y.n = N ∧ N ≤ 16777215 := fun y r1 q => by
    obtain ⟨_, _, q2, _⟩ := hno4 y q
    have hn := (right_v r1).2
    rw [itoaB_dec y.n hn.1] at q2
    rcases hnum with ⟨q3, q4⟩ | ⟨q3, q4⟩
    · have := dec_inj (by omega) (by omega) (q4.symm.trans q2)
      exact ⟨q3, by omega, by omega⟩
    · exact absurd q2 (q4 _ (by omega))
  have hS2 := Heap.Ext.setNew e2 hcl (Nat.le_refl _) (.cells (hc zH) .ex 1)
  by_cases hk2 : b.take lP.length = lP ∧ ok3 = true ∧ ok4 = true ∧ N ≤ 16777215
  case neg =>
    have hb := bad6 fun w r1 r2 r3 => by
      obtain ⟨q1, q2, _⟩ := hno4 w r3
      obtain ⟨q3, _, q4⟩ := hno5 w r1 r3
      exact hk2 ⟨q1, q2, q3, q4⟩
    by_cases p5 : b.take lP.length = lP
    · cases ok3 with
      | false =>
        simp [aun, p5, f1', haz, m_hc, hlz, f0', hpz, cellsOf_set, apart]
        exact ⟨hb, hS2⟩
      | true =>
        cases ok4 with
        | false =>
          simp [aun, p5, f1', haz, m_hc, hlz, f0', hpz, cellsOf_set, apart]
          exact ⟨hb, hS2⟩
        | true =>
          have hN : (16777215 : Int) < (N : Int) := by
            by_cases q : N ≤ 16777215
            · exact absurd ⟨p5, rfl, rfl, q⟩ hk2
            · omega
          simp [aun, p5, hN, f1', haz, m_hc, hlz, f0', hpz, cellsOf_set, apart]
          exact ⟨hb, hS2⟩
    · simp [aun, p5, f1', haz, m_hc, hlz, f0', hpz, cellsOf_set, apart]
      exact ⟨hb, hS2⟩
  obtain ⟨p5, rfl, rfl, hNb⟩ := hk2
  rw [if_pos p5] at hs2d
  obtain ⟨hs3, ha210⟩ : s2 = a2 ++ 10 :: b2 ∧ (10 : UInt8) ∉ a2 := by
    rcases hab2 with ⟨_, q⟩ | ⟨q, _⟩
    · exact q
    · cases q
  have ha2d : a2 = dec N := by
    rcases hnum with ⟨_, q⟩ | ⟨q, _⟩
    · exact q
    · cases q
  have hbs : b = lP ++ s2 := by
    have := List.take_append_drop lP.length b
    rw [p5, hs2d] at this; exact this.symm
  clear hab2 hnum hvv
  have hN' : ¬ (16777215 : Int) < (N : Int) := by omega
  simp [aun, p5, hN', hsP]
  refine (after_ok b2 sP H2).mono ?_
  rintro _ h9 ⟨rfl, e⟩
  rw [e]; clear e h9
  obtain ⟨t, htd⟩ : ∃ t, (if b2.take sP.length = sP then b2.drop sP.length else []) = t := ⟨_, rfl⟩
  have hlt : t.length ≤ b2.length := by
    rw [← htd]; split
    · rw [List.length_drop]; omega
    · simp
  rw [htd]
  have hno6 : ∀ y : Hd, s = mText y → b2.take sP.length = sP ∧ t = hexB y.hs ++ [10, 10] := fun y q => by
    obtain ⟨_, _, _, q2⟩ := hno4 y q
    have t1 : b2.take sP.length = sP := by rw [q2]; exact List.take_left
    refine ⟨t1, ?_⟩
    rw [← htd, if_pos t1, q2]; exact List.drop_left
  simp [hsv]
  by_cases hk3 : b2.take sP.length = sP ∧ t.length = 66 ∧ t.drop 64 = [10, 10]
  case neg =>
    have hb := bad6 fun w r1 r2 r3 => by
      obtain ⟨q1, q2⟩ := hno6 w r3
      refine hk3 ⟨q1, by rw [q2]; simp [hexB_len, r2], by rw [q2, List.drop_append_of_le_length (by simp [hexB_len, r2]), List.drop_eq_nil_of_le (by simp [hexB_len, r2])]; rfl⟩
    by_cases p9 : b2.take sP.length = sP
    · by_cases h66 : t.length = 66
      · have h66' : (t.length : Int) = 66 := by omega
        have b1 : abounds 66 66 (some (.int .i64 64)) none none = some (64, 66, 66) := rfl
        have x1 : (bs t).extract 64 66 = bs (t.drop 64) := by rw [bs_extract, List.take_of_length_le (by omega)]
        have hd : ¬ t.drop 64 = [10, 10] := fun q => hk3 ⟨p9, h66, q⟩
        simp [aun, p9, bs_size, h66, b1, x1, bs_lit, bs_eq_dec, hd, f1', haz, m_hc, hlz, f0', hpz, cellsOf_set, apart]
        exact ⟨hb, hS2⟩
      · have h66' : ¬ (t.length : Int) = 66 := by omega
        simp [aun, p9, bs_size, h66, h66', f1', haz, m_hc, hlz, f0', hpz, cellsOf_set, apart]
        exact ⟨hb, hS2⟩
    · simp [aun, p9, f1', haz, m_hc, hlz, f0', hpz, cellsOf_set, apart]
      exact ⟨hb, hS2⟩
  obtain ⟨p9, h66, ht64⟩ := hk3
  rw [if_pos p9] at htd
  have hb2s : b2 = sP ++ t := by
    have := List.take_append_drop sP.length b2
    rw [p9, htd] at this; exact this.symm
  have b1 : abounds 66 66 (some (.int .i64 64)) none none = some (64, 66, 66) := rfl
  have x1 : (bs t).extract 64 66 = bs (t.drop 64) := by rw [bs_extract, List.take_of_length_le (by omega)]
  have hfzl : afill (zl .u8 32) [] = some (zl .u8 32) := rfl
  have hz32 : (zl .u8 32).length = 32 := by simp [zl]
  have hmz : mcells (.agg (zl .u8 32).toArray) = some (zl .u8 32) := by simp [mcells]
  have hbz0 : bz (pB t 0) 32 = zl .u8 32 := by simp [bz, pB, ubs]
  have fZ := cellsOf_new H2 (zl .u8 32) .ex 1
  have hpz0 : aput (zl .u8 32) 0 (zl .u8 32) = zl .u8 32 := aput_all _ _ (by rw [hz32])
  have cC : ∀ i, (H2.push (.cells (bz (pB t i) 32) .ex 1)).Closed := fun i => closed_push c2 fun x hx => by
    rcases List.mem_append.1 hx with hx | hx
    · exact ubs_bel x hx
    · rw [List.eq_of_mem_replicate hx]; exact .int
  have fB : ∀ i, (H2.push (.cells (bz (pB t i) 32) .ex 1)).cellsOf (h.n + 3) = some (bz (pB t i) 32, .ex, 1) := fun i => cellsOf_at n2.symm _ _ _
  have sB : ∀ o o', (H2.push o).set (h.n + 3) o' = H2.push o' := fun o o' => set_at n2.symm _ _
  have eB : ∀ i, h.Ext (H2.push (.cells (bz (pB t i) 32) .ex 1)) := fun i => e2.push hcl _
  have k0 : ∀ o, (H2.push o).cellsOf h.n = some (hc zH, .ex, 1) := fun o => by rw [cellsOf_ne (by omega)]; exact f0'
  have k1 : ∀ o, (H2.push o).cellsOf (h.n + 1) = some (hc zH, .ex, 1) := fun o => by rw [cellsOf_ne (by omega)]; exact f1'
  have k2 : ∀ o, (H2.push o).cellsOf (h.n + 2) = some (iv x y z, .ex, 1) := fun o => by rw [cellsOf_ne (by omega)]; exact f2
  simp [aun, p9, bs_size, h66, b1, x1, ht64, bs_lit, hfzl, hz32, hmz, fZ, hpz0, set_push]
  rw [← hbz0, n2]
  have hgd : ∀ k, k < 66 → t[k]? = some (t.getD k 0) := fun k hk => by
    rw [List.getD, List.getElem?_eq_getElem (by omega)]; rfl
  have hSB : ∀ i, h.Ext ((H2.push (.cells (bz (pB t i) 32) .ex 1)).set h.n (.cells (hc zH) .ex 1)) := fun i => Heap.Ext.setNew (eB i) hcl (Nat.le_refl _) _
  refine awp_loop_of (α := KS2) (fun z => z.i ≤ 32 ∧ ∀ k, k < 2 * z.i → 0 ≤ pv (t.getD k 0)) (fun w => [(2, .pointer (some ⟨h.n, 0, none⟩)), (4, .pointer (some ⟨h.n + 1, 0, none⟩)), (7, .pointer (some ⟨h.n + 2, 0, none⟩)), (10, .string (bs t)), (12, .int .i64 N), (14, .pointer (some ⟨h.n + 3, 0, none⟩)), (15, .int .i64 w.i)])
    (fun w => H2.push (.cells (bz (pB t w.i) 32) .ex 1)) (fun w => 32 - w.i) ⟨0⟩ ⟨Nat.zero_le _, fun k hk => absurd hk (by simp)⟩ ⟨by show h.n ≤ H2.n + 1; omega, Nat.le_refl _, fun _ _ e => e, cC 0⟩
    (by simp; exact ⟨.ptr (by show h.n < H2.n + 1; omega), .ptr (by show h.n + 1 < H2.n + 1; omega), .ptr (by show h.n + 2 < H2.n + 1; omega), .string, .int, .ptr (by show h.n + 3 < H2.n + 1; omega), .int⟩) ?_
  rintro ⟨i⟩ ⟨hi, hvp⟩
  dsimp only at hi hvp ⊢
  have hpl := pB_len t i
  have hbl : (bz (pB t i) 32).length = 32 := bz_len (by omega)
  by_cases hi32 : i < 32
  · have hi' : (i : Int) < 32 := by omega
    have w1' : IntKind.i64.wrap (2 * (i : Int)) = ((2 * i : Nat) : Int) := by rw [IntWalk.i64_in _ (by omega)]; omega
    have w2' : IntKind.i64.wrap (((2 * i : Nat) : Int) + 1) = ((2 * i + 1 : Nat) : Int) := by rw [IntWalk.i64_in _ (by omega)]; omega
    have a1 : aidx (.int .i64 ((2 * i : Nat) : Int)) 66 = some (2 * i) := aidx_of (by omega)
    have a2' : aidx (.int .i64 ((2 * i + 1 : Nat) : Int)) 66 = some (2 * i + 1) := aidx_of (by omega)
    have g1 := hgd (2 * i) (by omega)
    have g2 := hgd (2 * i + 1) (by omega)
    have ga1 : t[2 * i]'(by omega) = t.getD (2 * i) 0 := by have := List.getElem?_eq_getElem (l := t) (i := 2 * i) (by omega); rw [g1] at this; exact (Option.some.inj this).symm
    have ga2 : t[2 * i + 1]'(by omega) = t.getD (2 * i + 1) 0 := by have := List.getElem?_eq_getElem (l := t) (i := 2 * i + 1) (by omega); rw [g2] at this; exact (Option.some.inj this).symm
    have hps : pB t (i + 1) = pB t i ++ [UInt8.ofNat (16 * (pv (t.getD (2 * i) 0)).toNat + (pv (t.getD (2 * i + 1) 0)).toNat)] := rfl
    have hstep : ∀ k, k < 2 * (i + 1) → 0 ≤ pv (t.getD (2 * i) 0) → 0 ≤ pv (t.getD (2 * i + 1) 0) → 0 ≤ pv (t.getD k 0) := fun k hk h1 h2 => by
      by_cases q : k < 2 * i
      · exact hvp k q
      · by_cases q2 : k = 2 * i
        · rw [q2]; exact h1
        · rw [show k = 2 * i + 1 by omega]; exact h2
    have hneg : ∀ j, j < 64 → pv (t.getD j 0) < 0 → PM s (.tuple #[hv zH, .int .i64 6]) := fun j hj q => bad6 fun w r1 r2 r3 => by
      obtain ⟨_, q2⟩ := hno6 w r3
      have hx := parse_hex w.hs r2
      have hok : hexOk (hexB w.hs) := by
        by_cases q3 : hexOk (hexB w.hs)
        · exact q3
        · unfold parseV at hx; rw [if_neg q3] at hx; exact absurd (congrArg Prod.snd hx) (by simp)
      have h3 := hok.2 j hj
      have h4 : t.getD j 0 = (hexB w.hs).getD j 0 := by
        rw [q2, List.getD, List.getD, List.getElem?_append_left (by rw [hexB_len, r2]; omega)]
      rw [h4] at q; omega
    have hn1 := hneg (2 * i) (by omega)
    have hn2 := hneg (2 * i + 1) (by omega)
    have y1 := pv_ok (t.getD (2 * i) 0)
    have y2 := pv_ok (t.getD (2 * i + 1) 0)
    generalize t.getD (2 * i) 0 = ca at *
    generalize t.getD (2 * i + 1) 0 = cb at *
    simp [c34_0, hi', bs_size, bs_data, h66, w1', w2', a1, a2', g1, g2, ga1, ga2, -Int.natCast_mul, -Int.natCast_add]
    refine (rdigit_ok ca _).mono ?_
    rintro _ h9 ⟨rfl, e⟩
    rw [e]; clear e h9
    simp
    refine (rdigit_ok cb _).mono ?_
    rintro _ h9 ⟨rfl, e⟩
    rw [e]; clear e h9
    by_cases n1' : pv ca < 0
    · have hb := hn1 n1'
      simp [n1', k1, haz, m_hc, hlz, k0, hpz, cellsOf_set, apart]
      exact ⟨hb, hSB i⟩
    by_cases n2' : pv cb < 0
    · have hb := hn2 n2'
      simp [n1', n2', k1, haz, m_hc, hlz, k0, hpz, cellsOf_set, apart]
      exact ⟨hb, hSB i⟩
    obtain ⟨u, hu⟩ : ∃ u : Nat, pv ca = u := ⟨(pv ca).toNat, by omega⟩
    obtain ⟨w, hw⟩ : ∃ w : Nat, pv cb = w := ⟨(pv cb).toNat, by omega⟩
    have hu16 := (y1 (by omega)).1
    have hw16 := (y2 (by omega)).1
    have hst2 : ∀ k, k < 2 * (i + 1) → 0 ≤ pv (t.getD k 0) := fun k hk => hstep k hk (by omega) (by omega)
    rw [hu, hw] at hps
    rw [hu] at hu16 n1'
    rw [hw] at hw16 n2'
    simp only [Int.toNat_natCast] at hps
    have wsh : IntKind.i64.wrap (16 * (u : Int)) = ((16 * u : Nat) : Int) := by rw [IntWalk.i64_in _ (by omega)]; omega
    have wad : IntKind.i64.wrap (((16 * u : Nat) : Int) + (w : Int)) = ((16 * u + w : Nat) : Int) := by rw [IntWalk.i64_in _ (by omega)]; omega
    have w8 : IntKind.u8.wrap ((16 * u + w : Nat) : Int) = ((UInt8.ofNat (16 * u + w)).toNat : Int) := by
      have : (UInt8.ofNat (16 * u + w)).toNat = 16 * u + w := by simp; omega
      rw [this]
      unfold IntKind.wrap; simp [IntKind.bits, IntKind.signed]; omega
    generalize UInt8.ofNat (16 * u + w) = by_ at *
    have hput := bz_put (n := 32) (l := pB t i) (by omega) by_
    rw [hpl, ← hps] at hput
    have hput' : aput (bz (pB t i) 32) i [.int .u8 (by_.toNat : Int)] = bz (pB t (i + 1)) 32 := hput
    have e1' : IntKind.i64.wrap ((i : Int) + 1) = ((i + 1 : Nat) : Int) := by rw [IntWalk.i64_in _ (by omega)]; omega
    rw [hu, hw]
    simp [n1', n2', wsh, wad, w8, aidx_of hi32, fB, sB, mcI, hbl, show i + 1 ≤ 32 by omega, hput', e1', -Int.natCast_add, -Int.natCast_mul]
    exact ⟨⟨i + 1⟩, by show 32 - (i + 1) < 32 - i; omega, ⟨by show i + 1 ≤ 32; omega, hst2⟩, ⟨by show h.n ≤ H2.n + 1; omega, Nat.le_refl _, fun _ _ e => e, cC _⟩, .ptr (by show h.n < H2.n + 1; omega), .ptr (by show h.n + 1 < H2.n + 1; omega), .ptr (by show h.n + 2 < H2.n + 1; omega), .string, .int, .ptr (by show h.n + 3 < H2.n + 1; omega), rfl, .int⟩
  · have hie : i = 32 := by omega
    subst hie
    have hb32 : bz (pB t 32) 32 = ubs (pB t 32) := by simp [bz, hpl, zl]
    have hul : (ubs (pB t 32)).length = 32 := by rw [ubs_len, hpl]
    have hcu : acut (ubs (pB t 32)) 0 32 = some (ubs (pB t 32)) := acut_full hul
    have hx1 : (⟨x, y, z, (N : Int), pB t 32⟩ : Hd).hs.length = 32 := hpl
    have hR : rightH ⟨x, y, z, (N : Int), pB t 32⟩ := by
      obtain ⟨v1, v2, v3⟩ := hxyz
      refine ⟨fun j hj => ?_, by show (0 : Int) ≤ N; omega, by show (N : Int) ≤ 16777215; omega⟩
      match j, hj with
      | 0, _ => exact v1
      | 1, _ => exact v2
      | 2, _ => exact v3
    have htx := hex_of h66 (fun j hj => hvp j (by omega)) ht64
    have hsx : s = mText ⟨x, y, z, (N : Int), pB t 32⟩ := by
      rw [mText_parts, hs1, hs2, hax, hbs, hs3, ha2d, hb2s]
      show _ = mP ++ (vtext x y z ++ 10 :: (lP ++ (itoaB (N : Int) ++ 10 :: (sP ++ (hexB (pB t 32) ++ [10, 10])))))
      rw [← htx]
      have : itoaB (N : Int) = dec N := by unfold itoaB; rw [if_neg (by omega)]; rfl
      rw [this]
    have afx : afill (hc zH) [(0, 3, .agg (iv x y z).toArray), (3, 1, .int .i64 (N : Int)), (4, 32, .agg (ubs (pB t 32)).toArray)] = some (hc ⟨x, y, z, (N : Int), pB t 32⟩) := by
      have := af36 (a := x) (b := y) (c := z) (n := (N : Int)) hpl
      rw [z36_eq] at this; exact this
    have hpy := hpx ⟨x, y, z, (N : Int), pB t 32⟩ hx1
    have hly := hc_len hx1
    have hay := hac _ hx1
    have hmy := m_hc ⟨x, y, z, (N : Int), pB t 32⟩
    have hPM : PM s (.tuple #[hv ⟨x, y, z, (N : Int), pB t 32⟩, .int .i64 0]) := ⟨fun w r1 r2 r3 => by rw [mText_inj r2 hx1 r1 hR (r3.symm.trans hsx)], fun q => absurd hsx (q _ hR hx1)⟩
    have hSy := Heap.Ext.setNew (eB 32) hcl (Nat.le_refl _) (.cells (hc ⟨x, y, z, (N : Int), pB t 32⟩) .ex 1)
    have k0' := k0 (.cells (bz (pB t 32) 32) .ex 1)
    have k2' := k2 (.cells (bz (pB t 32) 32) .ex 1)
    have fB' := fB 32
    rw [hb32] at k0' k2' fB' hSy ⊢
    generalize hX : (⟨x, y, z, (N : Int), pB t 32⟩ : Hd) = X at *
    simp [c34_0, k2', acut_iv, fB', hcu, afx, hmy, hly, hlz, k0', hpy, cellsOf_set, hay, apart]
    exact ⟨hPM, hSy⟩

end Go.Proofs.YtofoihlcjmghfaaGreatDoor.manr

