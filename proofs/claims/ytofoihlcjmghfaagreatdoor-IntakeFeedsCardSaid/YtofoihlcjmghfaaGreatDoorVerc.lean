/-
  Contracts.
-/
import Derived.Test.YtofoihlcjmghfaaGreatDoorVers
import Derived.Test.YtofoihlcjmghfaaGreatDoorStr
import Derived.Test.YtofoihlcjmghfaaGreatDoorAbEnter
import Derived.Test.YtofoihlcjmghfaaGreatDoorAbStep
import Derived.Test.YtofoihlcjmghfaaGreatDoorProg
import Derived.IntWalk
import Derived.KernelRfl
set_option linter.unusedSimpArgs false
set_option linter.unusedVariables false
set_option linter.unusedSectionVars false
namespace Go.Proofs.YtofoihlcjmghfaaGreatDoor.verc
open Go Go.Ab Go.Proofs Go.RowKit Go.Proofs.YtofoihlcjmghfaaGreatDoor.str Go.Proofs.YtofoihlcjmghfaaGreatDoor.vers
variable [Inhabited TabBox]
variable [Nonempty GF]
variable [Nonempty GE]
set_option maxRecDepth 100000
attribute [local simp] s_ops s_seq s_cond s_cond_t s_cond_f s_block s_exit s_ret s_skip s_then_n s_then_n' s_then_e s_then_e' s_then_r s_then_r' s_block_n s_block_r s_block_e s_post_r s_post_n s_res0 s_res1 s_res2 s_res3 s_res4 s_nil s_cons s_guard s_guard_tt s_guard_ff s_guard_tf s_guard_ft s_guard_u s_call s_kL s_put s_put0 s_set s_tmp s_const s_func s_glob s_init s_mkF s_mkF0 s_mv s_bin s_pick s_op aop oK_some oK_none bK_some bK_none b_add b_sub b_mul b_quo b_rem b_and b_or b_xor b_andNot b_shl b_shr b_eql b_neq b_lss b_leq b_gtr b_geq b_sadd b_seql b_sneq b_slss b_sleq b_sgtr b_sgeq s_draw s_drawT s_tK s_tT s_tF s_tB s_tR s_stage s_stage0 s_kW s_kR s_rc0 s_rc s_rcg rK_some rK_none rG_b rG_u s_callv s_callv_f s_nextM s_postR_r s_postR_n s_resA0 s_resAt s_resAc s_resC s_tup0 s_tup1 s_tup2 s_tup3
def c131 : AC := .seq (.ops [⟨some 2,none,.mv (.const (.bool false))⟩]) (.seq (.ops [⟨some 3,none,.mv (.tmp 0)⟩,⟨some 4,none,.mv (.tmp 0)⟩,⟨some 5,none,.bin .neq (.tmp 3) (.tmp 4)⟩,⟨some 2,none,.mv (.tmp 5)⟩]) .ret)
theorem k131 : compF Tryz.prog Tryz.f131 = some (c131, [2]) := by kernel_rfl
theorem n131 : Tryz.f131.ntmps = 6 := by kernel_rfl
def c101 : AC := .seq (.ops [⟨some 4,none,.mv (.const (.int .i64 0))⟩]) (.seq (.ops [⟨some 7,none,.mv (.tmp 0)⟩,⟨some 8,none,.call 131 [.tmp 7]⟩,⟨some 5,none,.mv (.tmp 8)⟩]) (.seq (.ops [⟨some 9,none,.mv (.tmp 1)⟩,⟨some 10,none,.call 131 [.tmp 9]⟩,⟨some 6,none,.mv (.tmp 10)⟩]) (.seq (.seq (.ops [⟨some 11,none,.mv (.tmp 5)⟩]) (.cond (.tmp 11) (.seq (.seq (.ops [⟨some 12,none,.mv (.tmp 6)⟩]) (.cond (.tmp 12) (.seq (.ops [⟨some 4,none,.mv (.const (.int .i64 0))⟩]) .ret) .skip)) (.seq (.ops [⟨some 4,none,.mv (.const (.int .i64 (-1)))⟩]) .ret)) .skip)) (.seq (.seq (.ops [⟨some 13,none,.mv (.tmp 6)⟩]) (.cond (.tmp 13) (.seq (.ops [⟨some 4,none,.mv (.const (.int .i64 1))⟩]) .ret) .skip)) (.seq (.seq (.ops [⟨some 14,none,.mv (.tmp 0)⟩,⟨some 15,none,.mv (.tmp 1)⟩,⟨some 16,none,.bin .lss (.tmp 14) (.tmp 15)⟩]) (.cond (.tmp 16) (.seq (.ops [⟨some 4,none,.mv (.const (.int .i64 (-1)))⟩]) .ret) .skip)) (.seq (.seq (.ops [⟨some 17,none,.mv (.tmp 0)⟩,⟨some 18,none,.mv (.tmp 1)⟩,⟨some 19,none,.bin .gtr (.tmp 17) (.tmp 18)⟩]) (.cond (.tmp 19) (.seq (.ops [⟨some 4,none,.mv (.const (.int .i64 1))⟩]) .ret) .skip)) (.seq (.ops [⟨some 4,none,.mv (.const (.int .i64 0))⟩]) .ret)))))))
theorem k101 : compF Tryz.prog Tryz.f101 = some (c101, [4]) := by kernel_rfl
theorem n101 : Tryz.f101.ntmps = 20 := by kernel_rfl
def c35 : AC := .seq (.ops [⟨some 2,none,.box (.tmp 0)⟩,⟨some 3,none,.box (.tmp 1)⟩,⟨some 4,none,.mv (.const (.bool false))⟩]) (.seq (.seq (.ops [⟨some 5,none,.iAddrA 3 1 (.tmp 2) (.const (.int .i64 0))⟩,⟨some 6,none,.load none (.tmp 5)⟩,⟨some 7,none,.iAddrA 3 1 (.tmp 3) (.const (.int .i64 0))⟩,⟨some 8,none,.load none (.tmp 7)⟩,⟨some 9,none,.bin .neq (.tmp 6) (.tmp 8)⟩]) (.cond (.tmp 9) (.seq (.ops [⟨some 10,none,.iAddrA 3 1 (.tmp 2) (.const (.int .i64 0))⟩,⟨some 11,none,.load none (.tmp 10)⟩,⟨some 12,none,.iAddrA 3 1 (.tmp 3) (.const (.int .i64 0))⟩,⟨some 13,none,.load none (.tmp 12)⟩,⟨some 14,none,.bin .lss (.tmp 11) (.tmp 13)⟩,⟨some 4,none,.mv (.tmp 14)⟩]) .ret) .skip)) (.seq (.seq (.ops [⟨some 15,none,.iAddrA 3 1 (.tmp 2) (.const (.int .i64 1))⟩,⟨some 16,none,.load none (.tmp 15)⟩,⟨some 17,none,.iAddrA 3 1 (.tmp 3) (.const (.int .i64 1))⟩,⟨some 18,none,.load none (.tmp 17)⟩,⟨some 19,none,.bin .neq (.tmp 16) (.tmp 18)⟩]) (.cond (.tmp 19) (.seq (.ops [⟨some 20,none,.iAddrA 3 1 (.tmp 2) (.const (.int .i64 1))⟩,⟨some 21,none,.load none (.tmp 20)⟩,⟨some 22,none,.iAddrA 3 1 (.tmp 3) (.const (.int .i64 1))⟩,⟨some 23,none,.load none (.tmp 22)⟩,⟨some 24,none,.bin .lss (.tmp 21) (.tmp 23)⟩,⟨some 4,none,.mv (.tmp 24)⟩]) .ret) .skip)) (.seq (.ops [⟨some 25,none,.iAddrA 3 1 (.tmp 2) (.const (.int .i64 2))⟩,⟨some 26,none,.load none (.tmp 25)⟩,⟨some 27,none,.iAddrA 3 1 (.tmp 3) (.const (.int .i64 2))⟩,⟨some 28,none,.load none (.tmp 27)⟩,⟨some 29,none,.bin .lss (.tmp 26) (.tmp 28)⟩,⟨some 4,none,.mv (.tmp 29)⟩]) .ret)))
theorem k35 : compF Tryz.prog Tryz.f35 = some (c35, [4]) := by kernel_rfl
theorem n35 : Tryz.f35.ntmps = 30 := by kernel_rfl
def c67_0 : AC := .seq (.ops [⟨some 8,none,.bin .lss (.tmp 7) (.const (.int .i64 3))⟩]) (.seq (.cond (.tmp 8) .skip (.exit 0)) (.seq (.block 1 (.seq (.ops [⟨some 9,none,.mv (.tmp 7)⟩,⟨some 5,none,.mv (.tmp 9)⟩]) (.seq (.draw [([⟨some 10,none,.mv (.tmp 5)⟩,⟨some 11,none,.iAddrA 3 1 (.tmp 2) (.tmp 10)⟩,⟨some 12,none,.load none (.tmp 11)⟩,⟨some 13,none,.mv (.tmp 5)⟩,⟨some 14,none,.iAddrA 3 1 (.tmp 3) (.tmp 13)⟩,⟨some 15,none,.load none (.tmp 14)⟩],[⟨some 16,none,.call 101 [.tmp 12,.tmp 15]⟩],[]),([⟨some 6,none,.mv (.tmp 16)⟩],[],[])]) (.seq (.ops [⟨some 17,none,.mv (.tmp 6)⟩,⟨some 18,none,.bin .neq (.tmp 17) (.const (.int .i64 0))⟩]) (.cond (.tmp 18) (.seq (.ops [⟨some 19,none,.mv (.tmp 6)⟩,⟨some 4,none,.mv (.tmp 19)⟩]) .ret) .skip))))) (.ops [⟨some 20,none,.bin .add (.tmp 7) (.const (.int .i64 1))⟩,⟨some 7,none,.mv (.tmp 20)⟩])))
def c67 : AC := .seq (.ops [⟨some 2,none,.box (.tmp 0)⟩,⟨some 3,none,.box (.tmp 1)⟩,⟨some 4,none,.mv (.const (.int .i64 0))⟩]) (.seq (.seq (.ops [⟨some 7,none,.mv (.const (.int .i64 0))⟩]) (.block 0 (.loop c67_0))) (.seq (.ops [⟨some 4,none,.mv (.const (.int .i64 0))⟩]) .ret))
theorem k67 : compF Tryz.prog Tryz.f67 = some (c67, [4]) := by kernel_rfl
theorem n67 : Tryz.f67.ntmps = 21 := by kernel_rfl
structure V3 where
  a : Int
  b : Int
  c : Int
  deriving DecidableEq
def V3.l (x : V3) : List Value := iv x.a x.b x.c
def vlt (x y : V3) : Prop := x.a < y.a ∨ (x.a = y.a ∧ (x.b < y.b ∨ (x.b = y.b ∧ x.c < y.c)))
instance (x y : V3) : Decidable (vlt x y) := by unfold vlt; infer_instance
theorem less_ok (x y : V3) (h : Heap) : ACalls Tryz.prog 35 [.agg x.l.toArray, .agg y.l.toArray] h fun v h' => v = .bool (decide (vlt x y)) ∧ h' = h := by
  obtain ⟨a, b, c⟩ := x
  obtain ⟨a', b', c'⟩ := y
  refine ACalls.same .bool (acalls_of mix Tryz.func35 k35 n35 (by simp) fun hcl hb => ?_)
  have f0 : ((h.push (.cells (iv a b c) .ex 1)).push (.cells (iv a' b' c') .ex 1)).cellsOf h.n = some (iv a b c, .ex, 1) := by rw [cellsOf_ne (by show ¬ h.n = h.n + 1; omega)]; exact cellsOf_new _ _ _ _
  have f1 : ((h.push (.cells (iv a b c) .ex 1)).push (.cells (iv a' b' c') .ex 1)).cellsOf (h.n + 1) = some (iv a' b' c', .ex, 1) := cellsOf_new (h.push (.cells (iv a b c) .ex 1)) _ _ _
  have e0 := ((Heap.Ext.refl h).push hcl (.cells (iv a b c) .ex 1)).push hcl (.cells (iv a' b' c') .ex 1)
  have i0 : aidx (.int .i64 0) 3 = some 0 := rfl
  have i1 : aidx (.int .i64 1) 3 = some 1 := rfl
  have i2 : aidx (.int .i64 2) 3 = some 2 := rfl
  have g0 : ∀ x y z : Int, (iv x y z)[0]? = some (.int .i64 x) := fun _ _ _ => rfl
  have g1 : ∀ x y z : Int, (iv x y z)[1]? = some (.int .i64 y) := fun _ _ _ => rfl
  have g2 : ∀ x y z : Int, (iv x y z)[2]? = some (.int .i64 z) := fun _ _ _ => rfl
  have hl : ∀ x y z, (V3.mk x y z).l = iv x y z := fun _ _ _ => rfl
  have hv : decide (vlt ⟨a, b, c⟩ ⟨a', b', c'⟩) = decide (a < a' ∨ (a = a' ∧ (b < b' ∨ (b = b' ∧ c < c')))) := rfl
  rw [hv]
  by_cases q0 : a = a'
  · subst q0
    by_cases q1 : b = b'
    · subst q1
      simp [c35, hl, mc_iv, f0, f1, i0, i1, i2, g0, g1, g2, apart]
      exact e0
    · simp [c35, hl, mc_iv, f0, f1, i0, i1, i2, g0, g1, g2, apart, q1]
      exact e0
  · simp [c35, hl, mc_iv, f0, f1, i0, i1, i2, g0, g1, g2, apart, q0]
    exact e0
def cmpI (a b : Int) : Int := if a < b then -1 else if b < a then 1 else 0
theorem cmpI_ok (a b : Int) (h : Heap) : ACalls Tryz.prog 101 [.int .i64 a, .int .i64 b] h fun v h' => v = .int .i64 (cmpI a b) ∧ h' = h := by
  have nan : ∀ x : Int, ACalls Tryz.prog 131 [.int .i64 x] h fun v h' => v = .bool false ∧ h' = h := fun x => by
    refine acalls_of mix Tryz.func131 k131 n131 (by simp) fun hcl hb => ?_
    simp [c131]
  refine acalls_of mix Tryz.func101 k101 n101 (by simp) fun hcl hb => ?_
  simp [c101]
  refine (nan a).mono ?_
  rintro _ h9 ⟨rfl, e⟩
  rw [e]; clear e h9
  simp
  refine (nan b).mono ?_
  rintro _ h9 ⟨rfl, e⟩
  rw [e]; clear e h9
  by_cases q0 : a < b
  · simp [q0, cmpI]
  · by_cases q1 : b < a
    · simp [q0, q1, cmpI]
    · simp [q0, q1, cmpI]
def cmpV (x y : V3) : Int := if vlt x y then -1 else if vlt y x then 1 else 0
theorem compareV_ok (x y : V3) (h : Heap) : ACalls Tryz.prog 67 [.agg x.l.toArray, .agg y.l.toArray] h fun v h' => v = .int .i64 (cmpV x y) ∧ h' = h := by
  obtain ⟨a, b, c⟩ := x
  obtain ⟨a', b', c'⟩ := y
  refine ACalls.same .int (acalls_of mix Tryz.func67 k67 n67 (by simp) fun hcl hb => ?_)
  have hl : ∀ x y z, (V3.mk x y z).l = iv x y z := fun _ _ _ => rfl
  have f0 : ((h.push (.cells (iv a b c) .ex 1)).push (.cells (iv a' b' c') .ex 1)).cellsOf h.n = some (iv a b c, .ex, 1) := by rw [cellsOf_ne (by show ¬ h.n = h.n + 1; omega)]; exact cellsOf_new _ _ _ _
  have f1 : ((h.push (.cells (iv a b c) .ex 1)).push (.cells (iv a' b' c') .ex 1)).cellsOf (h.n + 1) = some (iv a' b' c', .ex, 1) := cellsOf_new (h.push (.cells (iv a b c) .ex 1)) _ _ _
  have e0 := ((Heap.Ext.refl h).push hcl (.cells (iv a b c) .ex 1)).push hcl (.cells (iv a' b' c') .ex 1)
  have hc2 : ((h.push (.cells (iv a b c) .ex 1)).push (.cells (iv a' b' c') .ex 1)).Closed := closed_push (closed_push hcl iv_bel) iv_bel
  have n2 : ((h.push (.cells (iv a b c) .ex 1)).push (.cells (iv a' b' c') .ex 1)).n = h.n + 2 := rfl
  simp only [c67, s_seq, s_ops]
  simp [hl, mc_iv]
  generalize (h.push (.cells (iv a b c) .ex 1)).push (.cells (iv a' b' c') .ex 1) = H at *
  refine awp_loop_of (α := Nat) (fun i => i ≤ 3 ∧ (0 < i → a = a') ∧ (1 < i → b = b') ∧ (2 < i → c = c'))
    (fun i => [(2, .pointer (some ⟨h.n, 0, none⟩)), (3, .pointer (some ⟨h.n + 1, 0, none⟩)), (7, .int .i64 i)]) (fun _ => H) (fun i => 3 - i) 0
    ⟨Nat.zero_le _, fun h => absurd h (by omega), fun h => absurd h (by omega), fun h => absurd h (by omega)⟩ ⟨by omega, Nat.le_refl _, fun _ _ e => e, hc2⟩ (by simp; exact ⟨.ptr (by show h.n < H.n; omega), .ptr (by show h.n + 1 < H.n; omega), .int⟩) ?_
  rintro i ⟨hi, h0, h1, h2⟩
  by_cases hi3 : i < 3
  · have hI : i = 0 ∨ i = 1 ∨ i = 2 := by omega
    have step : ∀ (k : Nat) (p q : Int), k = i → (iv a b c)[k]? = some (.int .i64 p) → (iv a' b' c')[k]? = some (.int .i64 q) → (p ≠ q → cmpV ⟨a, b, c⟩ ⟨a', b', c'⟩ = cmpI p q) → (p = q → (0 < k + 1 → a = a') ∧ (1 < k + 1 → b = b') ∧ (2 < k + 1 → c = c')) →
        awp Tryz.prog h.n c67_0 (athen (fun f' h' => ∃ y, 3 - y < 3 - i ∧ (y ≤ 3 ∧ (0 < y → a = a') ∧ (1 < y → b = b') ∧ (2 < y → c = c')) ∧ H.Sub h.n h' ∧ ∀ p ∈ [(2, Value.pointer (some ⟨h.n, 0, none⟩)), (3, .pointer (some ⟨h.n + 1, 0, none⟩)), (7, .int .i64 y)], f' p.1 = p.2 ∧ VBelow H.n p.2)
          (ablock 0 (athen (awp Tryz.prog h.n ((AC.ops [⟨some 4, none, .mv (.const (.int .i64 0))⟩]).seq .ret) (apost [4] fun v h' => v = .int .i64 (cmpV ⟨a, b, c⟩ ⟨a', b', c'⟩) ∧ h.Ext h')) (apost [4] fun v h' => v = .int .i64 (cmpV ⟨a, b, c⟩ ⟨a', b', c'⟩) ∧ h.Ext h'))))
          (mkF [(2, .pointer (some ⟨h.n, 0, none⟩)), (3, .pointer (some ⟨h.n + 1, 0, none⟩)), (7, .int .i64 i)]) H := by
      intro k p q hk g1 g2 hne heq
      subst hk
      have hk' : (k : Int) < 3 := by omega
      have w4 : IntKind.i64.wrap ((k : Int) + 1) = ((k + 1 : Nat) : Int) := w1 k (by omega)
      simp [c67_0, hk', aidx_of hi3, f0, f1, apart, g1, g2]
      refine (cmpI_ok p q H).mono ?_
      rintro _ h9 ⟨rfl, e⟩
      rw [e]; clear e h9
      by_cases hpq : p = q
      · have hz : cmpI p q = 0 := by unfold cmpI; rw [if_neg (by omega), if_neg (by omega)]
        simp [aidx_of hi3, f0, f1, apart, g1, g2, hz, w4, -Int.natCast_add]
        exact ⟨k + 1, by omega, ⟨by omega, heq hpq⟩, ⟨by omega, Nat.le_refl _, fun _ _ e => e, hc2⟩, .ptr (by show h.n < H.n; omega), .ptr (by show h.n + 1 < H.n; omega), rfl, .int⟩
      · have hz : ¬ cmpI p q = 0 := by unfold cmpI; split <;> (try split) <;> omega
        simp [aidx_of hi3, f0, f1, apart, g1, g2, hz]
        exact ⟨(hne hpq).symm, e0⟩
    rcases hI with rfl | rfl | rfl
    · exact step 0 a a' rfl rfl rfl (fun hne => by
        by_cases q : a < a'
        · have hv : vlt ⟨a, b, c⟩ ⟨a', b', c'⟩ := .inl q
          rw [cmpV, if_pos hv, cmpI, if_pos q]
        · have this : a' < a := by omega
          have hv' : ¬ vlt ⟨a, b, c⟩ ⟨a', b', c'⟩ := fun k => by unfold vlt at k; dsimp only at k; omega
          have hv2 : vlt ⟨a', b', c'⟩ ⟨a, b, c⟩ := .inl this
          rw [cmpV, if_neg hv', if_pos hv2, cmpI, if_neg q, if_pos this]) (fun e => ⟨fun _ => e, fun h => absurd h (by omega), fun h => absurd h (by omega)⟩)
    · have ea := h0 (by omega)
      exact step 1 b b' rfl rfl rfl (fun hne => by
        by_cases q : b < b'
        · have hv : vlt ⟨a, b, c⟩ ⟨a', b', c'⟩ := .inr ⟨ea, .inl q⟩
          rw [cmpV, if_pos hv, cmpI, if_pos q]
        · have this : b' < b := by omega
          have hv' : ¬ vlt ⟨a, b, c⟩ ⟨a', b', c'⟩ := fun k => by unfold vlt at k; dsimp only at k; omega
          have hv2 : vlt ⟨a', b', c'⟩ ⟨a, b, c⟩ := .inr ⟨ea.symm, .inl this⟩
          rw [cmpV, if_neg hv', if_pos hv2, cmpI, if_neg q, if_pos this]) (fun e => ⟨fun _ => ea, fun _ => e, fun h => absurd h (by omega)⟩)
    · have ea := h0 (by omega)
      have eb := h1 (by omega)
      exact step 2 c c' rfl rfl rfl (fun hne => by
        by_cases q : c < c'
        · have hv : vlt ⟨a, b, c⟩ ⟨a', b', c'⟩ := .inr ⟨ea, .inr ⟨eb, q⟩⟩
          rw [cmpV, if_pos hv, cmpI, if_pos q]
        · have this : c' < c := by omega
          have hv' : ¬ vlt ⟨a, b, c⟩ ⟨a', b', c'⟩ := fun k => by unfold vlt at k; dsimp only at k; omega
          have hv2 : vlt ⟨a', b', c'⟩ ⟨a, b, c⟩ := .inr ⟨ea.symm, .inr ⟨eb.symm, this⟩⟩
          rw [cmpV, if_neg hv', if_pos hv2, cmpI, if_neg q, if_pos this]) (fun e => ⟨fun _ => ea, fun _ => eb, fun _ => e⟩)
  · have ea := h0 (by omega)
    have eb := h1 (by omega)
    have ec := h2 (by omega)
    have hi' : ¬ (i : Int) < 3 := by omega
    have hv1 : ¬ vlt ⟨a, b, c⟩ ⟨a', b', c'⟩ := fun k => by unfold vlt at k; dsimp only at k; omega
    have hv2 : ¬ vlt ⟨a', b', c'⟩ ⟨a, b, c⟩ := fun k => by unfold vlt at k; dsimp only at k; omega
    have hz : cmpV ⟨a, b, c⟩ ⟨a', b', c'⟩ = 0 := by rw [cmpV, if_neg hv1, if_neg hv2]
    simp [c67_0, hi', hz]
    exact e0

end Go.Proofs.YtofoihlcjmghfaaGreatDoor.verc

