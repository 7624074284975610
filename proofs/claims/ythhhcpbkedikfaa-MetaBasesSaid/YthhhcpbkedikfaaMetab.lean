/-
  Contracts.
-/
import Derived.Test.YthhhcpbkedikfaaMeta
import Derived.Test.YthhhcpbkedikfaaAbEnter
import Derived.Test.YthhhcpbkedikfaaProg
import Derived.IntWalk
import Derived.KernelRfl
set_option linter.unusedSimpArgs false
set_option linter.unusedVariables false
namespace Go.Proofs.Ythhhcpbkedikfaa.metab
open Go Go.Ab Go.Proofs Go.RowKit Go.Proofs.Ythhhcpbkedikfaa.meta
set_option maxRecDepth 100000
attribute [local simp] s_ops s_seq s_cond s_cond_t s_cond_f s_block s_exit s_ret s_skip s_then_n s_then_n' s_then_e s_then_e' s_then_r s_then_r' s_block_n s_block_r s_block_e s_post_r s_post_n s_res0 s_res1 s_res2 s_res3 s_res4 s_nil s_cons s_guard s_guard_tt s_guard_ff s_guard_tf s_guard_ft s_guard_u s_call s_kL s_put s_put0 s_set s_tmp s_const s_func s_init s_mkF s_mkF0 s_mv s_bin s_pick s_op aop oK_some oK_none bK_some bK_none b_add b_sub b_mul b_quo b_rem b_and b_or b_xor b_andNot b_shl b_shr b_eql b_neq b_lss b_leq b_gtr b_geq b_sadd b_seql b_sneq b_slss b_sleq b_sgtr b_sgeq s_draw s_stage s_stage0 s_kW s_kR s_rc0 s_rc s_rcg rK_some rK_none rG_b rG_u s_callv s_callv_f s_postR_r s_postR_n s_resA0 s_resAt s_resAc s_resC s_tup0 s_tup1 s_tup2 s_tup3
theorem val_ok (x : Int) (h : Heap) : ACalls Try.prog 125 [.int .i64 x] h fun v h' => v = .bool (!unfit x) ∧ h' = h := by
  refine acalls_of mix Try.func125 k125 n125 (by simp) fun hcl hb => ?_
  by_cases h0 : 0 ≤ x
  · have h0' : ¬ x < 0 := by omega
    by_cases h1 : x < 281474976710656
    · have h1' : ¬ 281474976710655 < x := by omega
      simp [c125, h0, h1, unfit, h0', h1']
    · have h1' : 281474976710655 < x := by omega
      simp [c125, h0, h1, unfit, h1']
  · have h0' : x < 0 := by omega
    simp [c125, h0, unfit, h0']
theorem rec14_ok (r : Rc) (h : Heap) : ACalls Try.prog 97 [rv r] h fun v h' => v = .bool (recR r) ∧ h' = h := by
  refine ACalls.same .bool (acalls_of mix Try.func97 k97 n97 (by simp) fun hcl hb => ?_)
  have hext := (Heap.Ext.refl h).push hcl (.cells [cI r.kd, cI r.sl, cI r.no, cI r.va] .ex 1)
  have nR : ∀ p : Prop, (recR r = true → p) → ¬ p → recR r = false := fun p f q => by
    cases hh : recR r
    · rfl
    · exact absurd (f hh) q
  simp [c97, rv, Rc.l, mcells, cellsOf_at, apart]
  by_cases h1 : 0 ≤ r.kd
  case neg => rw [nR _ (fun q => (recR_prop q).1.1) h1]; simp [h1]; exact hext
  by_cases h2 : r.kd < 128
  case neg => rw [nR (r.kd < 128) (fun q => by have := (recR_prop q).1; omega) h2]; simp [h1, h2, cellsOf_at, apart]; exact hext
  by_cases h3 : 0 ≤ r.sl
  case neg => rw [nR _ (fun q => (recR_prop q).2.1.1) h3]; simp [h1, h2, h3, cellsOf_at, apart]; exact hext
  by_cases h4 : r.sl < 4
  case neg => rw [nR (r.sl < 4) (fun q => by have := (recR_prop q).2.1; omega) h4]; simp [h1, h2, h3, h4, cellsOf_at, apart]; exact hext
  by_cases h5 : 0 ≤ r.no
  case neg => rw [nR _ (fun q => (recR_prop q).2.2.1.1) h5]; simp [h1, h2, h3, h4, h5, cellsOf_at, apart]; exact hext
  by_cases h6 : r.no < 65536
  case neg => rw [nR (r.no < 65536) (fun q => by have := (recR_prop q).2.2.1; omega) h6]; simp [h1, h2, h3, h4, h5, h6, cellsOf_at, apart]; exact hext
  by_cases h7 : 0 ≤ r.va
  case neg => rw [nR _ (fun q => (recR_prop q).2.2.2.1) h7]; simp [h1, h2, h3, h4, h5, h6, h7, cellsOf_at, apart]; exact hext
  by_cases h8 : r.va < 281474976710656
  case neg => rw [nR (r.va < 281474976710656) (fun q => by have := (recR_prop q).2.2.2; omega) h8]; simp [h1, h2, h3, h4, h5, h6, h7, h8, cellsOf_at, apart]; exact hext
  have hR : recR r = true := by simp [recR]; omega
  rw [hR]
  simp [h1, h2, h3, h4, h5, h6, h7, h8, cellsOf_at, apart]; exact hext
def outM (m : Mt) (i : Nat) : Mt := ⟨if 0 < i then m.s0 else ⟨0, 0, 0⟩, if 1 < i then m.s1 else ⟨0, 0, 0⟩, if 2 < i then m.s2 else ⟨0, 0, 0⟩, m.act, m.fl, m.cu, m.it⟩
theorem plain_ok (m : Mt) (h : Heap) : ACalls Try.prog 95 [mv m] h fun v h' => v = mv m ∧ h' = h := by
  refine ACalls.same (mv_below _) (acalls_ofR mix Try.func95 k95 n95 (by simp) fun hcl hb => ?_)
  have hm13 : ∀ x : Mt, mcells (mv x) = some (x.l.map cI) := fun _ => rfl
  have h9 : ∀ m : Mt, (m.l.map cI)[9]? = some (cI m.act) := fun _ => rfl
  have h10 : ∀ m : Mt, (m.l.map cI)[10]? = some (cI m.fl) := fun _ => rfl
  have h11 : ∀ m : Mt, (m.l.map cI)[11]? = some (cI m.cu) := fun _ => rfl
  have h12 : ∀ m : Mt, (m.l.map cI)[12]? = some (cI m.it) := fun _ => rfl
  have q9 : acut (m.l.map cI) 0 9 = some ((m.l.map cI).take 9) := rfl
  have hq : ∀ x : Mt, acut (x.l.map cI) 0 13 = some (x.l.map cI) := fun _ => rfl
  have hlM : ∀ x : Mt, x.l.length = 13 := fun _ => rfl
  have e9 : ∀ (m : Mt) (hx : 9 < m.l.length), m.l[9] = m.act := fun _ _ => rfl
  have e10 : ∀ (m : Mt) (hx : 10 < m.l.length), m.l[10] = m.fl := fun _ _ => rfl
  have e11 : ∀ (m : Mt) (hx : 11 < m.l.length), m.l[11] = m.cu := fun _ _ => rfl
  have e12 : ∀ (m : Mt) (hx : 12 < m.l.length), m.l[12] = m.it := fun _ _ => rfl
  have hmi : ∀ x : Int, mcells (.int .i64 x) = some [cI x] := fun _ => rfl
  have hma : ∀ l : List Value, mcells (.agg l.toArray) = some l := fun _ => by simp [mcells]
  simp [c95, hm13, cellsOf_at, cellsOf_ne, apart, hlM, e9, e10, e11, e12, hmi, hma, afill, aput, set_at, push_set, q9]
  have hc1 : (h.push (.cells (m.l.map cI) .ex 1)).Closed := closed_push hcl (fun x hx => by obtain ⟨y, _, rfl⟩ := List.mem_map.1 hx; exact .int)
  have hcZ : ((h.push (.cells (m.l.map cI) .ex 1)).push (.cells [cI 0, cI 0, cI 0, cI 0, cI 0, cI 0, cI 0, cI 0, cI 0, cI 0, cI 0, cI 0, cI 0] .ex 1)).Closed := closed_push hc1 (fun x hx => by simp at hx; rw [hx]; exact .int)
  have hextZ := ((Heap.Ext.refl h).push hcl (.cells (m.l.map cI) .ex 1)).push hcl (.cells [cI 0, cI 0, cI 0, cI 0, cI 0, cI 0, cI 0, cI 0, cI 0, cI 0, cI 0, cI 0, cI 0] .ex 1)
  have hnZ : ((h.push (.cells (m.l.map cI) .ex 1)).push (.cells [cI 0, cI 0, cI 0, cI 0, cI 0, cI 0, cI 0, cI 0, cI 0, cI 0, cI 0, cI 0, cI 0] .ex 1)).n = h.n + 1 + 1 := by simp
  have fZ : ((h.push (.cells (m.l.map cI) .ex 1)).push (.cells [cI 0, cI 0, cI 0, cI 0, cI 0, cI 0, cI 0, cI 0, cI 0, cI 0, cI 0, cI 0, cI 0] .ex 1)).cellsOf (h.n + 1) = some ([cI 0, cI 0, cI 0, cI 0, cI 0, cI 0, cI 0, cI 0, cI 0, cI 0, cI 0, cI 0, cI 0], .ex, 1) := by simp [cellsOf_at]
  generalize hZ : (h.push (.cells (m.l.map cI) .ex 1)).push (.cells [cI 0, cI 0, cI 0, cI 0, cI 0, cI 0, cI 0, cI 0, cI 0, cI 0, cI 0, cI 0, cI 0] .ex 1) = Z at *
  have hcO : ∀ i, (Z.push (.cells ((outM m i).l.map cI) .ex 1)).Closed := fun i => closed_push hcZ (fun x hx => by obtain ⟨y, _, rfl⟩ := List.mem_map.1 hx; exact .int)
  have bag : ∀ n, VBelow n (.agg ((m.l.map cI).take 9).toArray) := fun n => .agg fun i hi => by
    have : ∀ v ∈ (m.l.map cI).take 9, VBelow n v := fun v hv => by obtain ⟨y, _, rfl⟩ := List.mem_map.1 (List.mem_of_mem_take hv); exact .int
    rw [toArray_getD]
    have hi' : i < ((m.l.map cI).take 9).length := by simpa using hi
    simp only [List.getD, List.getElem?_eq_getElem hi', Option.getD_some]
    exact this _ (List.getElem_mem hi')
  have q93 : ∀ j : Nat, j < 3 → acut ((m.l.map cI).take 9) (j * 3) 3 = some ((m.get j).l.map cI) := fun j hj => by
    match j, hj with
    | 0, _ => rfl
    | 1, _ => rfl
    | 2, _ => rfl
  have hout : ∀ j : Nat, j < 3 → aput ((outM m j).l.map cI) (j * 3) ((m.get j).l.map cI) = (outM m (j + 1)).l.map cI := fun j hj => by
    match j, hj with
    | 0, _ => rfl
    | 1, _ => rfl
    | 2, _ => rfl
  have e0 : (outM m 0).l.map cI = [cI 0, cI 0, cI 0, cI 0, cI 0, cI 0, cI 0, cI 0, cI 0, cI m.act, cI m.fl, cI m.cu, cI m.it] := rfl
  rw [← e0]
  generalize hAG : ((m.l.map cI).take 9) = AG at *
  refine awp_loop_of (α := Nat) (fun i => i ≤ 3) (fun i => [(2, .pointer (some ⟨h.n + 1, 0, none⟩)), (3, .pointer (some ⟨Z.n, 0, none⟩)), (16, .agg AG.toArray), (17, .int .i64 i)]) (fun i => Z.push (.cells ((outM m i).l.map cI) .ex 1)) (fun i => 3 - i) 0
    (by show 0 ≤ 3; omega) ⟨by show h.n ≤ Z.n + 1; omega, Nat.le_refl _, fun _ _ e => e, hcO 0⟩ (by simp; exact ⟨.ptr (by show h.n + 1 < Z.n + 1; omega), .ptr (Nat.lt_succ_self _), bag _, .int⟩) ?_
  intro i hi
  by_cases hi3 : i < 3
  · have hi3' : (i : Int) < 3 := by omega
    have q93' := q93 i hi3
    have hout' := hout i hi3
    generalize hX : m.get i = X at *
    have hms : mcells (.agg (X.l.map cI).toArray) = some (X.l.map cI) := rfl
    have hlX : X.l.length = 3 := rfl
    have hqs : acut (X.l.map cI) 0 3 = some (X.l.map cI) := rfl
    have hin : i * 3 + 3 ≤ 13 := by omega
    have hap : aput [Value.int .i64 0, Value.int .i64 0, Value.int .i64 0] 0 (X.l.map cI) = X.l.map cI := rfl
    have hw : IntKind.i64.wrap ((i : Int) + 1) = ((i + 1 : Nat) : Int) := by rw [i64_small (by omega) (by omega)]; omega
    simp [hi3', aidx_of hi3, apart, q93', hms, hlX, hlM, cellsOf_at, cellsOf_ne, set_at, push_set, hqs, hin, hout', hap]
    refine ⟨i + 1, by omega, by omega, ⟨by show h.n ≤ Z.n + 1; omega, Nat.le_succ _, fun x o e => ?_, hcO (i + 1)⟩, .ptr (by show h.n + 1 < Z.n + 1; omega), .ptr (Nat.lt_succ_self _), bag _, hw, .int⟩
    have hx : x < Z.n + 1 := (hcO (i + 1) x o e).1
    rw [push_m, if_neg (by show ¬ x = Z.n + 1; omega)]
    exact e
  · have hie : i = 3 := by omega
    subst hie
    have e3 : (outM m 3) = m := rfl
    have n1 : ¬ h.n + 1 = Z.n := by omega
    have l1 : h.n + 1 < Z.n := by omega
    have hm13' : mcells (.agg (m.l.map cI).toArray) = some (m.l.map cI) := rfl
    have hap : aput [cI 0, cI 0, cI 0, cI 0, cI 0, cI 0, cI 0, cI 0, cI 0, cI 0, cI 0, cI 0, cI 0] 0 (m.l.map cI) = m.l.map cI := rfl
    simp [e3, hm13', hlM, cellsOf_at, cellsOf_ne, n1, l1, apart, hq, fZ, set_at, push_set, hap, cellsOf_set]
    exact ⟨rfl, (Heap.Ext.setNew hextZ hcl (Nat.le_succ _) _).push hcl _⟩
theorem refRightM_ok (m : Mt) (h : Heap) : ACalls Try.prog 94 [mv m] h fun v h' => v = .bool (decide (RightP m)) ∧ h' = h := by
  refine ACalls.same .bool (acalls_of mix Try.func94 k94 n94 (by simp) fun hcl hb => ?_)
  have hm13 : ∀ x : Mt, mcells (mv x) = some (x.l.map cI) := fun _ => rfl
  have hlM : ∀ x : Mt, x.l.length = 13 := fun _ => rfl
  have e9 : ∀ (m : Mt) (hx : 9 < m.l.length), m.l[9] = m.act := fun _ _ => rfl
  have e10 : ∀ (m : Mt) (hx : 10 < m.l.length), m.l[10] = m.fl := fun _ _ => rfl
  have e11 : ∀ (m : Mt) (hx : 11 < m.l.length), m.l[11] = m.cu := fun _ _ => rfl
  have e12 : ∀ (m : Mt) (hx : 12 < m.l.length), m.l[12] = m.it := fun _ _ => rfl
  have e0 : ∀ (m : Mt) (hx : 0 < m.l.length), m.l[0] = m.s0.st := fun _ _ => rfl
  have i0 : aidx (.int .i64 0) 3 = some 0 := rfl
  have hext1 := (Heap.Ext.refl h).push hcl (.cells (m.l.map cI) .ex 1)
  have hc1 : (h.push (.cells (m.l.map cI) .ex 1)).Closed := closed_push hcl (fun x hx => by obtain ⟨y, _, rfl⟩ := List.mem_map.1 hx; exact .int)
  rw [c94]
  simp only [s_seq, s_ops]
  simp [hm13]
  have f0 : (h.push (.cells (m.l.map cI) .ex 1)).cellsOf h.n = some (m.l.map cI, .ex, 1) := cellsOf_new _ _ _ _
  have hn1 : (h.push (.cells (m.l.map cI) .ex 1)).n = h.n + 1 := by simp
  generalize hHM : h.push (.cells (m.l.map cI) .ex 1) = HM at *
  by_cases a0 : m.act < 0
  · have : ¬ RightP m := fun q => by have := q.1.1; omega
    simp [f0, apart, hlM, e9, a0, this]; exact hext1
  by_cases a3 : 2 < m.act
  · have : ¬ RightP m := fun q => by have := q.1.2; omega
    simp [f0, apart, hlM, e9, a0, a3, this]; exact hext1
  have nu : ∀ b1 b2 b3 : Bool, (b1 || b2 || b3) = false → b1 = false ∧ b2 = false ∧ b3 = false := by decide
  simp [f0, apart, hlM, e9, e10, a0, a3]
  refine (val_ok _ _).mono ?_
  rintro v1 h1 ⟨rfl, e⟩
  subst e
  cases u1 : unfit m.fl
  case true =>
    have : ¬ RightP m := fun q => by have := (nu _ _ _ q.2.1).1; rw [u1] at this; cases this
    simp [aun, this]; exact hext1
  simp [aun, f0, apart, hlM, e11]
  refine (val_ok _ _).mono ?_
  rintro v1 h1 ⟨rfl, e⟩
  subst e
  cases u2 : unfit m.cu
  case true =>
    have : ¬ RightP m := fun q => by have := (nu _ _ _ q.2.1).2.1; rw [u2] at this; cases this
    simp [aun, this]; exact hext1
  simp [aun, f0, apart, hlM, e12]
  refine (val_ok _ _).mono ?_
  rintro v1 h1 ⟨rfl, e⟩
  subst e
  cases u3 : unfit m.it
  case true =>
    have : ¬ RightP m := fun q => by have := (nu _ _ _ q.2.1).2.2; rw [u3] at this; cases this
    simp [aun, this]; exact hext1
  by_cases hg : m.s0.st = 4
  case neg =>
    have : ¬ RightP m := fun q => hg q.2.2.1
    simp [aun, i0, f0, apart, hlM, e0, hg, this]; exact hext1
  simp [aun, i0, f0, apart, hlM, e0, hg]
  have hst := fun j hj => getst m j hj
  refine awp_loop_of (α := Nat) (fun i => i ≤ 3 ∧ ∀ j : Nat, j < i → SlotP (m.get j) ∧ ((m.get j).st = 3 → (j : Int) = m.act))
    (fun i => [(1, .pointer (some ⟨h.n, 0, none⟩)), (3, .int .i64 i)]) (fun _ => h1) (fun i => 3 - i) 0
    ⟨by omega, fun j hj => by simp at hj⟩ ⟨by omega, Nat.le_refl _, fun _ _ e => e, hc1⟩
    (by simp [hn1]; exact ⟨.ptr (by show h.n < _; omega), .int⟩) ?_
  rintro i ⟨hi, hall⟩
  by_cases hi3 : i < 3
  · have hi3' : (i : Int) < 3 := by omega
    obtain ⟨ga, _⟩ := hst i hi3
    generalize hX : m.get i = X at *
    have hms : mcells (.agg (X.l.map cI).toArray) = some (X.l.map cI) := rfl
    have hlX : X.l.length = 3 := rfl
    have hap : aput [Value.int .i64 0, Value.int .i64 0, Value.int .i64 0] 0 (X.l.map cI) = X.l.map cI := rfl
    have x0 : ∀ hx : 0 < X.l.length, X.l[0] = X.st := fun _ => rfl
    have x1 : ∀ hx : 1 < X.l.length, X.l[1] = X.ve := fun _ => rfl
    have x2 : ∀ hx : 2 < X.l.length, X.l[2] = X.ba := fun _ => rfl
    have hext3 := hext1.push hcl (.cells (X.l.map cI) .ex 1)
    have hlti : (i = 0 ∨ i = 1 ∨ i = 2) := by omega
    have slotI : RightP m → SlotP X ∧ (X.st = 3 → m.act = i) := fun q => by
      rcases hlti with rfl | rfl | rfl
      · rw [← hX]; exact q.2.2.2.1
      · rw [← hX]; exact q.2.2.2.2.1
      · rw [← hX]; exact q.2.2.2.2.2.1
    have f3 : (h1.push (.cells (X.l.map cI) .ex 1)).cellsOf h.n = some (m.l.map cI, .ex, 1) := cellsOf_push hc1 f0
    have hw : IntKind.i64.wrap ((i : Int) + 1) = ((i + 1 : Nat) : Int) := by rw [i64_small (by omega) (by omega)]; omega
    by_cases s1 : X.st < 0
    · have : ¬ RightP m := fun q => by have := (slotI q).1.1; omega
      simp [hi3', aidx_of hi3, f0, apart, ga, hms, hlX, cellsOf_at, set_at, hap, x0, s1, this]; exact hext3
    by_cases s2 : 5 < X.st
    · have : ¬ RightP m := fun q => by have := (slotI q).1.1; omega
      simp [hi3', aidx_of hi3, f0, apart, ga, hms, hlX, cellsOf_at, set_at, hap, x0, s1, s2, this]; exact hext3
    simp [hi3', aidx_of hi3, f0, apart, ga, hms, hlX, cellsOf_at, set_at, hap, x0, x1, s1, s2]
    refine (val_ok _ _).mono ?_
    rintro v1 h2 ⟨rfl, e⟩
    subst e
    cases u4 : unfit X.ve
    case true =>
      have : ¬ RightP m := fun q => by have := (unfit_iff _).2 (slotI q).1.2.1; rw [u4] at this; cases this
      simp [aun, this]; exact hext3
    have u4' := (unfit_iff _).1 u4
    by_cases s3 : X.ba < 0
    · have : ¬ RightP m := fun q => by have := (slotI q).1.2.2.1; omega
      simp [aun, apart, hlX, cellsOf_at, x2, s3, this]; exact hext3
    by_cases s4 : 512 < X.ba
    · have : ¬ RightP m := fun q => by have := (slotI q).1.2.2.1; omega
      simp [aun, apart, hlX, cellsOf_at, x2, s3, s4, this]; exact hext3
    have good : SlotP X → (X.st = 3 → (i : Int) = m.act) → ∃ y, 3 - y < 3 - i ∧ (y ≤ 3 ∧ ∀ j : Nat, j < y → SlotP (m.get j) ∧ ((m.get j).st = 3 → (j : Int) = m.act)) ∧ h1.Sub h.n (h1.push (.cells (X.l.map cI) .ex 1)) ∧ VBelow h1.n (.pointer (some ⟨h.n, 0, none⟩)) ∧ IntKind.i64.wrap ((i : Int) + 1) = ((y : Nat) : Int) ∧ VBelow h1.n (.int .i64 (y : Nat)) := fun g1 g2 =>
      ⟨i + 1, by omega, ⟨by omega, fun j hj => by
        by_cases hji : j = i
        · subst hji; rw [hX]; exact ⟨g1, g2⟩
        · exact hall j (by omega)⟩, ⟨by omega, Nat.le_succ _, fun x o e => by rw [push_m, if_neg (by have := (hc1 x o e).1; omega)]; exact e, hc1⟩, .ptr (by show h.n < _; omega), hw, .int⟩
    by_cases t0 : X.st = 0
    · by_cases v0 : X.ve = 0
      · by_cases b0 : X.ba = 0
        · simp [aun, apart, hlX, cellsOf_at, cellsOf_ne, x0, x1, x2, t0, v0, b0]
          exact good ⟨by omega, by omega, by omega, by omega, by omega⟩ (by omega)
        · have : ¬ RightP m := fun q => by have := (slotI q).1.2.2.2.1 b0; omega
          simp [aun, apart, hlX, cellsOf_at, cellsOf_ne, x0, x1, x2, t0, v0, b0, s3, s4, this]; exact hext3
      · have : ¬ RightP m := fun q => v0 ((slotI q).1.2.2.2.2 (.inl t0))
        simp [aun, apart, hlX, cellsOf_at, cellsOf_ne, x0, x1, x2, t0, v0, s3, s4, this]; exact hext3
    by_cases t1 : X.st = 1
    · by_cases v0 : X.ve = 0
      · by_cases b0 : X.ba = 0
        · simp [aun, apart, hlX, cellsOf_at, cellsOf_ne, x0, x1, x2, t1, v0, b0]
          exact good ⟨by omega, by omega, by omega, by omega, by omega⟩ (by omega)
        · have : ¬ RightP m := fun q => by have := (slotI q).1.2.2.2.1 b0; omega
          simp [aun, apart, hlX, cellsOf_at, cellsOf_ne, x0, x1, x2, t1, v0, b0, s3, s4, this]; exact hext3
      · have : ¬ RightP m := fun q => v0 ((slotI q).1.2.2.2.2 (.inr (.inl t1)))
        simp [aun, apart, hlX, cellsOf_at, cellsOf_ne, x0, x1, x2, t1, v0, s3, s4, this]; exact hext3
    by_cases t5 : X.st = 5
    · by_cases v0 : X.ve = 0
      · by_cases b0 : X.ba = 0
        · simp [aun, apart, hlX, cellsOf_at, cellsOf_ne, x0, x1, x2, t5, v0, b0]
          exact good ⟨by omega, by omega, by omega, by omega, by omega⟩ (by omega)
        · have : ¬ RightP m := fun q => by have := (slotI q).1.2.2.2.1 b0; omega
          simp [aun, apart, hlX, cellsOf_at, cellsOf_ne, x0, x1, x2, t5, v0, b0, s3, s4, this]; exact hext3
      · have : ¬ RightP m := fun q => v0 ((slotI q).1.2.2.2.2 (.inr (.inr t5)))
        simp [aun, apart, hlX, cellsOf_at, cellsOf_ne, x0, x1, x2, t5, v0, s3, s4, this]; exact hext3
    by_cases t3 : X.st = 3
    · by_cases hia : (i : Int) = m.act
      · have dia : decide ((i : Int) = m.act) = true := decide_eq_true hia
        simp [aun, apart, hlX, cellsOf_at, cellsOf_ne, x0, x1, x2, t3, s3, s4, f3, e9, hlM, dia]
        exact good ⟨by omega, by omega, by omega, by omega, by omega⟩ (fun _ => hia)
      · have : ¬ RightP m := fun q => hia ((slotI q).2 t3).symm
        simp [aun, apart, hlX, cellsOf_at, cellsOf_ne, x0, x1, x2, t3, s3, s4, f3, e9, hlM, hia, this]; exact hext3
    by_cases b0 : X.ba = 0
    · simp [aun, apart, hlX, cellsOf_at, cellsOf_ne, x0, x1, x2, t0, t1, t5, t3, b0]
      exact good ⟨by omega, by omega, by omega, by omega, by omega⟩ (by omega)
    · have : ¬ RightP m := fun q => t3 ((slotI q).1.2.2.2.1 b0)
      simp [aun, apart, hlX, cellsOf_at, cellsOf_ne, x0, x1, x2, t0, t1, t5, t3, b0, s3, s4, this]; exact hext3
  · have hie : i = 3 := by omega
    subst hie
    obtain ⟨k, hk⟩ : ∃ k : Nat, m.act = k := ⟨m.act.toNat, by omega⟩
    have hk3 : k < 3 := by omega
    have ga := (hst k hk3).2
    have r0 := hall 0 (by omega)
    have r1 := hall 1 (by omega)
    have r2 := hall 2 (by omega)
    have iff : RightP m ↔ ((m.get k).st = 4 ∨ (m.get k).st = 3) := by
      constructor
      · intro q; have := q.2.2.2.2.2.2; rw [hk] at this; exact this
      · intro q
        exact ⟨by omega, by rw [u1, u2, u3]; rfl, hg, ⟨r0.1, fun z => (r0.2 z).symm⟩, ⟨r1.1, fun z => (r1.2 z).symm⟩, ⟨r2.1, fun z => (r2.2 z).symm⟩, by rw [hk]; exact q⟩
    have hD : decide (RightP m) = (decide ((m.get k).st = 3) || decide ((m.get k).st = 4)) := by
      rw [Bool.eq_iff_iff]; simp [iff, or_comm]
    rw [hD]
    simp [f0, apart, hlM, e9, hk, aidx_of hk3, ga]
    by_cases h4 : (m.get k).st = 3
    · simp [h4]; exact hext1
    · simp [h4]; exact hext1
/-- an append to what is one's own, in a heap that has more -/
theorem own_app2 {h0 H H' : Heap} {esz bytes len k : Nat} {cells new : List Value} {v : Value} (o : Own h0 esz len cells v H) (hc : h0.Closed)
    (hle : H.n ≤ H'.n) (hext : ∀ b ob, H.m b = some ob → H'.m b = some ob) (hk : 0 < k) (hnew : new.length = k * esz) (hsm : (len + k) * (bytes + 1) ≤ 1099511627776) :
    ∃ a c, v = .slice a len c ∧ ∃ v2 H2 H3, aapp H' esz bytes a len c new k = some (v2, H2) ∧ Own h0 esz (len + k) (cells ++ new) v2 H3 ∧ H3.n = H2.n ∧ (∀ b o, H3.m b = some o → H2.m b = some o) ∧ (∀ b ob, H.m b = none → b < H'.n → H'.m b = some ob → H2.m b = some ob) ∧ H'.n ≤ H2.n ∧ (∀ b, b < H'.n → H.m b = none → H3.m b = none) := by
  obtain ⟨hn, ⟨rfl, rfl, rfl, hH⟩ | ⟨nm, md, e, h1, h2, rfl, hcl, hmd, hH⟩⟩ := o
  · have hold : ∀ b ob, h0.m b = some ob → H'.m b = some ob := fun b ob e => hext b ob (by rw [hH]; exact e)
    refine ⟨none, 0, rfl, .slice (some ⟨H'.n, 0, none⟩) k k, H'.push (.cells new .loose esz), h0.with1 H'.n (.cells new .loose esz) (H'.n + 1), ?_, ⟨by show h0.n ≤ H'.n + 1; omega, .inr ⟨H'.n, .loose, esz, by omega, by show H'.n < H'.n + 1; omega, by simp, by simpa using hnew, fun _ => rfl, by simp⟩⟩, by simp, fun b ob e => ?_, fun b ob hb1 hb2 e => ?_, Nat.le_succ _, fun b hb1 hb2 => ?_⟩
    · simp only [Nat.zero_add] at hsm
      unfold aapp
      simp only [Nat.zero_add]
      rw [if_pos ⟨hsm, hnew⟩]
      simp [show k ≠ 0 by omega]
    · rw [with1_m] at e
      rw [push_m]
      split at e
      · rename_i hb; rw [if_pos hb]; exact e
      · rename_i hb
        rw [if_neg hb]
        exact hold b ob e
    · rw [push_m, if_neg (by omega)]; exact e
    · rw [hH] at hb2; rw [with1_m, if_neg (by omega)]; exact hb2
  · have hown : H'.m nm = some (.cells cells md e) := hext nm _ (by rw [hH, with1_m, if_pos rfl])
    have hcell : H'.cellsOf nm = some (cells, md, e) := by
      unfold Heap.cellsOf
      rw [hown]
    have hcut : acut cells 0 (len * esz) = some cells := by
      unfold acut
      rw [if_pos (by omega)]
      simp [← hcl]
    have hold : ∀ b ob, h0.m b = some ob → H'.m b = some ob := fun b ob e => by
      have := (hc b ob e).1
      exact hext b ob (by rw [hH, with1_m, if_neg (by omega)]; exact e)
    by_cases hloose : md = .loose
    · subst hloose
      obtain rfl := hmd rfl
      refine ⟨some ⟨nm, 0, none⟩, len, rfl, .slice (some ⟨H'.n, 0, none⟩) (len + k) (len + k), (H'.kill nm).push (.cells (cells ++ new) .loose e), h0.with1 H'.n (.cells (cells ++ new) .loose e) (H'.n + 1), ?_,
        ⟨by show h0.n ≤ H'.n + 1; omega, .inr ⟨H'.n, .loose, e, by omega, by show H'.n < H'.n + 1; omega, rfl, by simp [hcl, hnew, Nat.add_mul], fun _ => rfl, rfl⟩⟩, by simp, fun b ob eb => ?_, fun b ob hb1 hb2 eb => ?_, Nat.le_succ _, fun b hb1 hb2 => ?_⟩
      · unfold aapp
        dsimp only
        rw [if_pos ⟨hsm, hnew⟩, hcell]
        simp only [if_true]
        rw [hcut]
        simp only
        rw [if_neg (by omega), if_pos (by omega)]
      · rw [with1_m] at eb
        rw [push_m, kill_n]
        split at eb
        · rename_i hb; rw [if_pos hb]; exact eb
        · rename_i hb
          rw [if_neg hb, kill_m]
          have := (hc b ob eb).1
          rw [if_neg (by omega)]
          exact hold b ob eb
      · have hbn : b ≠ nm := fun q => by rw [q, hH, with1_m, if_pos rfl] at hb1; cases hb1
        rw [push_m, kill_n, if_neg (by omega), kill_m, if_neg hbn]; exact eb
      · rw [hH, with1_m] at hb2; split at hb2; cases hb2; rw [with1_m, if_neg (by omega)]; exact hb2
    · refine ⟨some ⟨nm, 0, none⟩, len, rfl, .slice (some ⟨H'.n, 0, none⟩) (len + k) (len + k), H'.push (.cells (cells ++ new) .loose esz), h0.with1 H'.n (.cells (cells ++ new) .loose esz) (H'.n + 1), ?_,
        ⟨by show h0.n ≤ H'.n + 1; omega, .inr ⟨H'.n, .loose, esz, by omega, by show H'.n < H'.n + 1; omega, rfl, by simp [hcl, hnew, Nat.add_mul], fun _ => rfl, rfl⟩⟩, by simp, fun b ob eb => ?_, fun b ob hb1 hb2 eb => ?_, Nat.le_succ _, fun b hb1 hb2 => ?_⟩
      · unfold aapp
        dsimp only
        rw [if_pos ⟨hsm, hnew⟩, hcell]
        simp only [if_true]
        rw [hcut]
        simp only
        rw [if_neg hloose, if_neg (by omega)]
      · rw [with1_m] at eb
        rw [push_m]
        split at eb
        · rename_i hb; rw [if_pos hb]; exact eb
        · rename_i hb
          rw [if_neg hb]
          exact hold b ob eb
      · rw [push_m, if_neg (by omega)]; exact eb
      · rw [hH, with1_m] at hb2; split at hb2; cases hb2; rw [with1_m, if_neg (by omega)]; exact hb2
def rcells (l : List Rc) : List Value := l.flatMap fun r => r.l.map cI
theorem rcells_app (l : List Rc) (r : Rc) : rcells (l ++ [r]) = rcells l ++ r.l.map cI := by simp [rcells]
theorem rcells_below {n : Nat} {l : List Rc} : ∀ x ∈ rcells l, VBelow n x := fun x hx => by
  obtain ⟨r, _, hx⟩ := List.mem_flatMap.1 hx
  obtain ⟨y, _, rfl⟩ := List.mem_map.1 hx
  exact .int
theorem rcells_get : ∀ (l : List Rc) (i : Nat) (hi : i < l.length), acut (rcells l) (0 + i * 4) 4 = some (l[i].l.map cI) := by
  intro l i hi
  have hl : ∀ x ∈ l.map (fun r => r.l.map cI), x.length = 4 := fun x hx => by obtain ⟨r, _, rfl⟩ := List.mem_map.1 hx; rfl
  have hfl := flat_len hl
  have e : rcells l = (l.map fun r => r.l.map cI).flatten := by simp [rcells, List.flatMap]
  have hg := flat_get hl i (by simpa using hi)
  unfold acut
  rw [e, if_pos (by rw [hfl, List.length_map]; omega), Nat.zero_add, hg]
  simp
theorem own_recs {h0 H : Heap} {l : List Rc} {v : Value} (o : Own h0 4 l.length (rcells l) v H) : SlR H v l := by
  obtain ⟨hn, ⟨rfl, _, h2, hH⟩ | ⟨nm, md, e, h1, h2, rfl, h3, _, hH⟩⟩ := o
  · exact .inl ⟨0, rfl, List.eq_nil_of_length_eq_zero h2⟩
  · exact .inr ⟨nm, 0, _, _, md, e, rfl, by unfold Heap.cellsOf; rw [hH, with1_m, if_pos rfl], fun i hi => rcells_get l i hi⟩
def baseSlot (i : Int) (x : S3) : List Rc := ⟨100 + x.st, i, 0, x.ve⟩ :: (if x.ba = 0 then [] else [⟨111, i, 0, x.ba⟩])
def opt (k v : Int) : List Rc := if v = 0 then [] else [⟨k, 0, 0, v⟩]
def slotsL (m : Mt) : Nat → List Rc
  | 0 => []
  | i + 1 => slotsL m i ++ baseSlot (i : Int) (m.get (i : Int))
def numsL (m : Mt) : Nat → List Rc
  | 0 => []
  | i + 1 => numsL m i ++ opt (8 + i : Nat) (if i = 0 then m.fl else if i = 1 then m.cu else m.it)
def baseL (m : Mt) : List Rc := slotsL m 3 ++ [⟨110, m.act, 0, 0⟩] ++ numsL m 3
theorem slotsL_len (m : Mt) (i : Nat) : (slotsL m i).length ≤ 2 * i := by
  induction i with
  | zero => simp [slotsL]
  | succ i ih =>
    simp only [slotsL, baseSlot, List.length_append, List.length_cons]
    split <;> simp <;> omega
theorem opt_len (k v : Int) : (opt k v).length ≤ 1 := by
  unfold opt
  split <;> simp
theorem numsL_len (m : Mt) (i : Nat) : (numsL m i).length ≤ i := by
  induction i with
  | zero => simp [numsL]
  | succ i ih =>
    simp only [numsL, List.length_append]
    have := opt_len (8 + i : Nat) (if i = 0 then m.fl else if i = 1 then m.cu else m.it)
    omega
/-- one more record -/
theorem own_rec {h0 H H' : Heap} {l : List Rc} {v : Value} (o : Own h0 4 l.length (rcells l) v H) (hc : h0.Closed) (hle : H.n ≤ H'.n) (hext : ∀ b ob, H.m b = some ob → H'.m b = some ob) (r : Rc) (hl : l.length ≤ 1000) :
    ∃ a c, v = .slice a l.length c ∧ ∃ v2 H2 H3, aapp H' 4 32 a l.length c (r.l.map cI) 1 = some (v2, H2) ∧ Own h0 4 (l ++ [r]).length (rcells (l ++ [r])) v2 H3 ∧ H3.n = H2.n ∧ (∀ b o, H3.m b = some o → H2.m b = some o) ∧ (∀ b ob, H.m b = none → b < H'.n → H'.m b = some ob → H2.m b = some ob) ∧ H'.n ≤ H2.n ∧ (∀ b, b < H'.n → H.m b = none → H3.m b = none) := by
  obtain ⟨a, c, e, v2, H2, H3, h1, h2, h3, h4, h5, h6⟩ := own_app2 (H' := H') (bytes := 32) (k := 1) (new := r.l.map cI) o hc hle hext (by omega) rfl (by omega)
  refine ⟨a, c, e, v2, H2, H3, h1, ?_, h3, h4, h5, h6⟩
  rw [rcells_app]
  simpa using h2
theorem SlR.keep {h h' : Heap} {v : Value} {l : List Rc} (s : SlR h v l) (hk : ∀ b o, h.m b = some o → h'.m b = some o) : SlR h' v l := by
  rcases s with ⟨c, rfl, rfl⟩ | ⟨b, o, cap, c, m, e, rfl, h2, h3⟩
  · exact .inl ⟨c, rfl, rfl⟩
  · exact .inr ⟨b, o, cap, c, m, e, rfl, cellsOf_keep hk h2, h3⟩
theorem own_upto {h0 H : Heap} {esz len : Nat} {cells : List Value} {v : Value} {n : Nat} (o : Own h0 esz len cells v H) (hn : H.n ≤ n) : Own h0 esz len cells v (H.upto n) := by
  obtain ⟨h1, ⟨rfl, rfl, rfl, hH⟩ | ⟨nm, md, e, h2, h3, rfl, h4, h5, hH⟩⟩ := o
  · refine ⟨Nat.le_trans h1 hn, .inl ⟨rfl, rfl, rfl, ?_⟩⟩
    rw [hH]; rfl
  · refine ⟨Nat.le_trans h1 hn, .inr ⟨nm, md, e, h2, Nat.lt_of_lt_of_le h3 hn, rfl, h4, h5, ?_⟩⟩
    rw [hH]; rfl
theorem base_ok (m : Mt) (h : Heap) : ACalls Try.prog 93 [mv m] h fun v h' => SlR h' v (if RightP m then baseL m else []) ∧ h.Sub h.n h' := by
  refine acalls_of mix Try.func93 k93 n93 (by simp) fun hcl hb => ?_
  have hm13 : ∀ x : Mt, mcells (mv x) = some (x.l.map cI) := fun _ => rfl
  have hlM : ∀ x : Mt, x.l.length = 13 := fun _ => rfl
  have hq : ∀ x : Mt, acut (x.l.map cI) 0 13 = some (x.l.map cI) := fun _ => rfl
  have q9 : acut (m.l.map cI) 0 9 = some ((m.l.map cI).take 9) := rfl
  have e9 : ∀ (m : Mt) (hx : 9 < m.l.length), m.l[9] = m.act := fun _ _ => rfl
  have e10 : ∀ (m : Mt) (hx : 10 < m.l.length), m.l[10] = m.fl := fun _ _ => rfl
  have e11 : ∀ (m : Mt) (hx : 11 < m.l.length), m.l[11] = m.cu := fun _ _ => rfl
  have e12 : ∀ (m : Mt) (hx : 12 < m.l.length), m.l[12] = m.it := fun _ _ => rfl
  have hq4 : ∀ a b c d : Value, acut [a, b, c, d] 0 4 = some [a, b, c, d] := fun _ _ _ _ => rfl
  have hmi : ∀ x : Int, mcells (.int .i64 x) = some [cI x] := fun _ => rfl
  have hcB : (h.push (.cells (m.l.map cI) .ex 1)).Closed := closed_push hcl (fun x hx => by obtain ⟨y, _, rfl⟩ := List.mem_map.1 hx; exact .int)
  have hsubB : h.Sub h.n (h.push (.cells (m.l.map cI) .ex 1)) := ((Heap.Ext.refl h).push hcl _).sub hcl
  simp [c93, hm13, cellsOf_at, apart, hlM, hq]
  have hag : Value.agg (m.l.map cI).toArray = mv m := rfl
  rw [hag]
  refine (mright_ok _ _).mono ?_
  rintro v1 h1 ⟨rfl, e⟩
  have hn1 : h1.n = h.n + 1 := by rw [e]; simp
  have f0 : h1.cellsOf h.n = some (m.l.map cI, .ex, 1) := by rw [e]; exact cellsOf_new _ _ _ _
  rw [← e] at hcB hsubB
  clear e
  by_cases hR : RightP m
  case neg =>
    simp [aun, hR]
    exact ⟨.inl ⟨0, rfl, rfl⟩, hsubB⟩
  obtain ⟨⟨ha0, ha2⟩, hu, hg0, ⟨hP0, hA0⟩, ⟨hP1, hA1⟩, ⟨hP2, hA2⟩, hact⟩ := id hR
  have hP : ∀ j : Nat, j < 3 → SlotP (m.get j) := fun j hj => by
    rcases (show j = 0 ∨ j = 1 ∨ j = 2 by omega) with rfl | rfl | rfl
    · exact hP0
    · exact hP1
    · exact hP2
  have bag : ∀ n, VBelow n (.agg ((m.l.map cI).take 9).toArray) := fun n => .agg fun i hi => by
    have : ∀ v ∈ (m.l.map cI).take 9, VBelow n v := fun v hv => by obtain ⟨y, _, rfl⟩ := List.mem_map.1 (List.mem_of_mem_take hv); exact .int
    rw [toArray_getD]
    have hi' : i < ((m.l.map cI).take 9).length := by simpa using hi
    simp only [List.getD, List.getElem?_eq_getElem hi', Option.getD_some]
    exact this _ (List.getElem_mem hi')
  have q93 : ∀ j : Nat, j < 3 → acut ((m.l.map cI).take 9) (j * 3) 3 = some ((m.get j).l.map cI) := fun j hj => by
    match j, hj with
    | 0, _ => rfl
    | 1, _ => rfl
    | 2, _ => rfl
  simp [aun, hR, f0, apart, hlM, q9]
  generalize hAG : ((m.l.map cI).take 9) = AG at *
  have hold : ∀ {n cs v H}, Own h1 4 n cs v H → H.cellsOf h.n = some (m.l.map cI, .ex, 1) := fun o => by
    have := o.old (b := h.n) (by omega)
    unfold Heap.cellsOf at f0 ⊢
    rw [this]; exact f0
  have hsub : ∀ {l : List Rc} {n v H}, Own h1 4 n (rcells l) v H → H.Sub h.n H := fun o => ⟨by have := o.1; omega, Nat.le_refl _, fun _ _ e => e, o.closed hcB rcells_below⟩
  have bp : ∀ {n cs v H}, Own h1 4 n cs v H → VBelow H.n (.pointer (some ⟨h.n, 0, none⟩)) := fun o => .ptr (by have := o.1; show h.n < _; omega)
  refine awp_loop_of (α := Nat × Value × Heap) (fun x => x.1 ≤ 3 ∧ Own h1 4 (slotsL m x.1).length (rcells (slotsL m x.1)) x.2.1 x.2.2)
    (fun x => [(1, .pointer (some ⟨h.n, 0, none⟩)), (3, x.2.1), (12, .agg AG.toArray), (13, .int .i64 x.1)]) (fun x => x.2.2) (fun x => 3 - x.1) (0, .slice none 0 0, h1)
    ⟨by show 0 ≤ 3; omega, Own.start h1 4⟩ (hsub (l := []) (Own.start h1 4)) (by simp; exact ⟨.ptr (by show h.n < h1.n; omega), .snil, bag _, .int⟩) ?_
  rintro ⟨i, v, H⟩ ⟨hi, ho⟩
  dsimp only at hi ho
  by_cases hi3 : i < 3
  · have hi3' : (i : Int) < 3 := by omega
    have q93' := q93 i hi3
    have hPX := hP i hi3
    have hll := slotsL_len m i
    have eS : slotsL m (i + 1) = slotsL m i ++ baseSlot (i : Int) (m.get (i : Int)) := rfl
    generalize hX : m.get i = X at *
    generalize slotsL m i = L at *
    have hms : mcells (.agg (X.l.map cI).toArray) = some (X.l.map cI) := rfl
    have hlX : X.l.length = 3 := rfl
    have hap : aput [Value.int .i64 0, Value.int .i64 0, Value.int .i64 0] 0 (X.l.map cI) = X.l.map cI := rfl
    have x0 : ∀ hx : 0 < X.l.length, X.l[0] = X.st := fun _ => rfl
    have x1 : ∀ hx : 1 < X.l.length, X.l[1] = X.ve := fun _ => rfl
    have x2 : ∀ hx : 2 < X.l.length, X.l[2] = X.ba := fun _ => rfl
    have hw : IntKind.i64.wrap ((i : Int) + 1) = ((i + 1 : Nat) : Int) := by rw [i64_small (by omega) (by omega)]; omega
    have hs1 := hPX.1
    have hws : IntKind.i64.wrap (100 + X.st) = 100 + X.st := i64_small (by omega) (by omega)
    have hHcl := ho.closed hcB rcells_below
    have hS1 : ∀ b ob, H.m b = some ob → (H.push (.cells (X.l.map cI) .ex 1)).m b = some ob := fun b ob e => by rw [push_m, if_neg (by have := (hHcl b ob e).1; omega)]; exact e
    have hS2 : ∀ r : Rc, ∀ b ob, H.m b = some ob → ((H.push (.cells (X.l.map cI) .ex 1)).push (.cells (r.l.map cI) .ex 1)).m b = some ob := fun r b ob e => by rw [push_m, if_neg (by have := (hHcl b ob e).1; show ¬ b = H.n + 1; omega)]; exact hS1 b ob e
    obtain ⟨a, c, rfl, v2, H2, H3, happ, ho3, hn3, hin3, hkeep, hge, hno⟩ := own_rec ho hcB (by show H.n ≤ H.n + 1 + 1; omega) (hS2 ⟨100 + X.st, i, 0, X.ve⟩) ⟨100 + X.st, i, 0, X.ve⟩ (by omega)
    have fX : H2.cellsOf H.n = some (X.l.map cI, .ex, 1) := by
      have := hkeep H.n (.cells (X.l.map cI) .ex 1) (hHcl.none (Nat.le_refl _)) (by show H.n < H.n + 1 + 1; omega) (by rw [push_m, if_neg (by show ¬ H.n = H.n + 1; omega), push_m, if_pos rfl])
      unfold Heap.cellsOf
      rw [this]
    have hge' : H.n + 1 + 1 ≤ H2.n := hge
    simp [Rc.l] at happ
    have hH3 := ho3.closed hcB rcells_below
    have hlt : ∀ b ob, H3.m b = some ob → b < H2.n := fun b ob e => by have := (hH3 b ob e).1; omega
    by_cases b0 : X.ba = 0
    · have eB : baseSlot (i : Int) X = [⟨100 + X.st, i, 0, X.ve⟩] := by unfold baseSlot; rw [if_pos b0]
      rw [eB] at eS
      simp [hi3', aidx_of hi3, q93', hms, hlX, cellsOf_at, cellsOf_ne, set_at, push_set, hap, x0, x1, x2, hws, afill, mcells, alen, afirst, cellsOf_new, hq4, aput, apart, happ, hmi, fX, b0]
      rw [← eS] at ho3
      exact ⟨i + 1, by omega, v2, H3, ⟨by omega, ho3⟩, ⟨by have := ho3.1; omega, by omega, hin3, hH3⟩, bp ho3, ⟨rfl, ho3.below⟩, bag _, hw, .int⟩
    · have eB : baseSlot (i : Int) X = [⟨100 + X.st, i, 0, X.ve⟩] ++ [⟨111, i, 0, X.ba⟩] := by unfold baseSlot; rw [if_neg b0]; rfl
      rw [eB, ← List.append_assoc] at eS
      obtain ⟨a3, c3, rfl, v4, H4, H5, happ4, ho5, hn5, hin5, hkeep5, hge5, hno5⟩ := own_rec ho3 hcB (H' := H2.push (.cells ((⟨111, i, 0, X.ba⟩ : Rc).l.map cI) .ex 1)) (by show H3.n ≤ H2.n + 1; omega) (fun b ob e => by rw [push_m, if_neg (by have := hlt b ob e; omega)]; exact hin3 b ob e) ⟨111, i, 0, X.ba⟩ (by simp; omega)
      have hge5' : H2.n + 1 ≤ H4.n := hge5
      simp [Rc.l] at happ4 happ
      simp [hi3', aidx_of hi3, q93', hms, hlX, cellsOf_at, cellsOf_ne, set_at, push_set, hap, x0, x1, x2, hws, afill, mcells, alen, afirst, cellsOf_new, hq4, aput, apart, happ, happ4, hmi, fX, b0]
      rw [← eS] at ho5
      exact ⟨i + 1, by omega, v4, H5, ⟨by omega, ho5⟩, ⟨by have := ho5.1; omega, by omega, hin5, ho5.closed hcB rcells_below⟩, bp ho5, ⟨rfl, ho5.below⟩, bag _, hw, .int⟩
  · have hie : i = 3 := by omega
    subst hie
    have hHc := hold ho
    have hH := ho.closed hcB rcells_below
    have hll := slotsL_len m 3
    obtain ⟨a, c, rfl, v2, H2, H3, happ, ho3, hn3, hin3, hkeep, hge, hno⟩ := own_rec ho hcB (H' := H.push (.cells ((⟨110, m.act, 0, 0⟩ : Rc).l.map cI) .ex 1)) (by show H.n ≤ H.n + 1; omega) (fun b ob e => by rw [push_m, if_neg (by have := (hH b ob e).1; omega)]; exact e) ⟨110, m.act, 0, 0⟩ (by omega)
    have hge' : H.n + 1 ≤ H2.n := hge
    simp [Rc.l] at happ
    have hc2 : H2.cellsOf h.n = some (m.l.map cI, .ex, 1) := by
      have := cellsOf_keep hin3 (hold ho3)
      exact this
    simp [hHc, apart, hlM, e9, e10, e11, e12, afill, mcells, alen, afirst, cellsOf_new, hq4, aput, hmi, happ, hc2]
    have hH3 := ho3.closed hcB rcells_below
    have hH2n : ∀ b ob, H3.m b = some ob → b < H2.n := fun b ob e => by have := (hH3 b ob e).1; omega
    have fN : (H2.push (.cells [cI m.fl, cI m.cu, cI m.it] .ex 1)).cellsOf H2.n = some ([cI m.fl, cI m.cu, cI m.it], .ex, 1) := cellsOf_new _ _ _ _
    have hN3 : H3.m H2.n = none := hH3.none (by omega)
    generalize hNN : H2.n = N at *
    have hnl := numsL_len m
    have u : unfit m.fl = false ∧ unfit m.cu = false ∧ unfit m.it = false := (show ∀ b1 b2 b3 : Bool, (b1 || b2 || b3) = false → b1 = false ∧ b2 = false ∧ b3 = false by decide) _ _ _ hu
    have nm : Int → Int := fun _ => 0
    have l0 : numsL m 0 = [] := rfl
    generalize hL : slotsL m 3 ++ [(⟨110, m.act, 0, 0⟩ : Rc)] = L at *
    have hLl : L.length ≤ 7 := by rw [← hL]; simp; omega
    have hb0 : baseL m = L ++ numsL m 3 := by unfold baseL; rw [hL]
    have hsetc : ∀ {H : Heap} {i : Nat} {v : Value}, Own h1 4 (L ++ numsL m i).length (rcells (L ++ numsL m i)) v H → N < H.n → (H.set N (.cells [cI m.fl, cI m.cu, cI m.it] .ex 1)).Closed := fun o hn b ob e => by
      rw [set_m] at e
      split at e
      · rename_i hb
        cases e
        exact ⟨by rw [hb]; exact hn, fun x hx => by simp at hx; rcases hx with rfl | rfl | rfl <;> exact .int⟩
      · exact o.closed hcB rcells_below b ob e
    have hsub2 : ∀ {H : Heap} {i : Nat} {v : Value}, Own h1 4 (L ++ numsL m i).length (rcells (L ++ numsL m i)) v H → N < H.n → ∀ {H' : Heap}, H.n ≤ H'.n → (∀ b ob, H.m b = some ob → H'.m b = some ob) → H'.m N = some (.cells [cI m.fl, cI m.cu, cI m.it] .ex 1) → (H.set N (.cells [cI m.fl, cI m.cu, cI m.it] .ex 1)).Sub h.n H' := fun o hn H' hle hs hN => by
      refine ⟨by have := o.1; show h.n ≤ _; simp; omega, by simpa using hle, fun b ob e => ?_, hsetc o hn⟩
      rw [set_m] at e
      split at e
      · rename_i hb
        cases e
        rw [hb]; exact hN
      · exact hs b ob e
    refine awp_loop_of (α := Nat × Value × Heap) (fun x => x.1 ≤ 3 ∧ Own h1 4 (L ++ numsL m x.1).length (rcells (L ++ numsL m x.1)) x.2.1 x.2.2 ∧ x.2.2.m N = none ∧ N < x.2.2.n)
      (fun x => [(3, x.2.1), (50, .slice (some ⟨N, 0, none⟩) 3 3), (51, .int .i64 3), (52, .int .i64 x.1)]) (fun x => x.2.2.set N (.cells [cI m.fl, cI m.cu, cI m.it] .ex 1)) (fun x => 3 - x.1) (0, v2, H3.upto (N + 1))
      ⟨by show 0 ≤ 3; omega, by simpa [l0] using own_upto ho3 (show H3.n ≤ N + 1 by omega), hN3, Nat.lt_succ_self _⟩ (hsub2 (i := 0) (by simpa [l0] using own_upto ho3 (show H3.n ≤ N + 1 by omega)) (Nat.lt_succ_self _) (by show N + 1 ≤ H2.n + 1; omega) (fun b ob e => by rw [push_m, if_neg (by have := hH2n b ob e; omega)]; exact hin3 b ob e) (by rw [push_m, if_pos hNN.symm]))
      (by simp; exact ⟨ho3.below.mono (by omega), .slice (by show N < N + 1; omega), .int, .int⟩) ?_
    clear happ ho3 hin3 hkeep hge hno hge' hc2 hH3 hH2n fN hN3 hNN ho hH hHc hn3
    rintro ⟨i, v, HO⟩ ⟨hi, ho, hNO, hNn⟩
    dsimp only at hi ho hNO hNn
    have fN : (HO.set N (.cells [cI m.fl, cI m.cu, cI m.it] .ex 1)).cellsOf N = some ([cI m.fl, cI m.cu, cI m.it], .ex, 1) := by unfold Heap.cellsOf; rw [set_m, if_pos rfl]
    by_cases hi3 : i < 3
    · have hi3' : (i : Int) < 3 := by omega
      have hw : IntKind.i64.wrap ((i : Int) + 1) = ((i + 1 : Nat) : Int) := by rw [i64_small (by omega) (by omega)]; omega
      have hw8 : IntKind.i64.wrap (8 + (i : Int)) = ((8 + i : Nat) : Int) := by rw [i64_small (by omega) (by omega)]; omega
      obtain ⟨y, hy, hy2⟩ : ∃ y, [cI m.fl, cI m.cu, cI m.it][i]? = some (cI y) ∧ numsL m (i + 1) = numsL m i ++ opt (8 + i : Nat) y := by
        rcases (show i = 0 ∨ i = 1 ∨ i = 2 by omega) with rfl | rfl | rfl
        · exact ⟨m.fl, rfl, rfl⟩
        · exact ⟨m.cu, rfl, rfl⟩
        · exact ⟨m.it, rfl, rfl⟩
      have hll := hnl i
      have hck : ∀ {HO2 : Heap} {v2 : Value}, Own h1 4 (L ++ numsL m (i + 1)).length (rcells (L ++ numsL m (i + 1))) v2 HO2 → N < HO2.n → ∀ {H' : Heap}, HO2.n ≤ H'.n → (∀ b ob, HO2.m b = some ob → H'.m b = some ob) → H'.m N = some (.cells [cI m.fl, cI m.cu, cI m.it] .ex 1) → (HO2.set N (.cells [cI m.fl, cI m.cu, cI m.it] .ex 1)).Sub h.n H' := fun o => hsub2 o
      have fN' : (HO.set N (.cells [cI m.fl, cI m.cu, cI m.it] .ex 1)).m N = some (.cells [cI m.fl, cI m.cu, cI m.it] .ex 1) := by rw [set_m, if_pos rfl]
      generalize hNU : [cI m.fl, cI m.cu, cI m.it] = NU at *
      have hy0 : NU[0 + i]? = some (cI y) := by rw [Nat.zero_add]; exact hy
      by_cases y0 : y = 0
      · have eO : opt (8 + i : Nat) y = [] := by unfold opt; rw [if_pos y0]
        rw [eO, List.append_nil] at hy2
        rw [← hy2] at ho
        simp [hi3', aidx_of hi3, hi3, fN, apart, hy, hy0, y0]
        exact ⟨i + 1, by omega, v, HO, ⟨by omega, by simpa using ho, hNO, hNn⟩, hck ho hNn (by simp) (fun b ob e => by rw [set_m, if_neg (fun q => by rw [q, hNO] at e; cases e)]; exact e) fN', ⟨rfl, ho.below⟩, .slice hNn, .int, hw, .int⟩
      · have eO : opt (8 + i : Nat) y = [⟨(8 + i : Nat), 0, 0, y⟩] := by unfold opt; rw [if_neg y0]
        rw [eO] at hy2
        have hHO := ho.closed hcB rcells_below
        obtain ⟨a, c, rfl, v2, H2, H3, happ, ho3, hn3, hin3, hkeep, hge, hno⟩ := own_rec ho hcB (H' := (HO.set N (.cells NU .ex 1)).push (.cells ((⟨(8 + i : Nat), 0, 0, y⟩ : Rc).l.map cI) .ex 1)) (by show HO.n ≤ HO.n + 1; omega) (fun b ob e => by rw [push_m, if_neg (by have := (hHO b ob e).1; show ¬ b = HO.n; omega), set_m, if_neg (fun q => by rw [q, hNO] at e; cases e)]; exact e) ⟨(8 + i : Nat), 0, 0, y⟩ (by simp; omega)
        have fR : ∀ cs, ((HO.set N (.cells NU .ex 1)).push (.cells cs .ex 1)).cellsOf HO.n = some (cs, .ex, 1) := fun cs => cellsOf_new (HO.set N (.cells NU .ex 1)) cs .ex 1
        simp [Rc.l] at happ
        simp [hi3', aidx_of hi3, hi3, fN, fR, hy, hy0, y0, apart, hw8, afill, mcells, alen, afirst, cellsOf_new, hq4, aput, apart, hmi, happ]
        rw [List.append_assoc, ← hy2] at ho3
        have hge' : HO.n + 1 ≤ H2.n := hge
        refine ⟨i + 1, by omega, v2, H3, ⟨by omega, by simpa using ho3, hno N (by show N < HO.n + 1; omega) hNO, by omega⟩, hck ho3 (by omega) (by omega) hin3 (hkeep N _ hNO (by show N < HO.n + 1; omega) (by rw [push_m, if_neg (by show ¬ N = HO.n; omega)]; exact fN')), ⟨rfl, ho3.below⟩, .slice (by show N < H3.n; omega), .int, hw, .int⟩
    · have hie : i = 3 := by omega
      subst hie
      simp
      rw [hb0]
      have hHO := ho.closed hcB rcells_below
      have hinc : ∀ b ob, HO.m b = some ob → (HO.set N (.cells [cI m.fl, cI m.cu, cI m.it] .ex 1)).m b = some ob := fun b ob e => by rw [set_m, if_neg (fun q => by rw [q, hNO] at e; cases e)]; exact e
      have hS := own_recs ho
      refine ⟨SlR.keep hS hinc, ⟨Nat.le_refl _, by show h.n ≤ HO.n; have := ho.1; omega, fun b ob e => ?_, hcl⟩⟩
      have := hsubB.sub b ob e
      exact hinc b ob (by rw [ho.old (by have := (hcl b ob e).1; omega)]; exact this)
theorem all_step {m m' : Mt} {r : Rc} (rs : List Rc) (h : doM m r = (m', 0)) : allF (r :: rs) m = allF rs m' := by
  show (if (doM m r).2 = 0 then allF rs (doM m r).1 else (zeroM, (doM m r).2)) = _
  rw [h]
  exact if_pos rfl
theorem all_app : ∀ {a : List Rc} {m m' : Mt} (b : List Rc), allF a m = (m', 0) → allF (a ++ b) m = allF b m'
  | [], m, m', b, h => by simp [allF] at h; rw [h]; rfl
  | r :: rs, m, m', b, h => by
    unfold allF at h
    split at h
    · rename_i h0
      have : doM m r = ((doM m r).1, 0) := by rw [← h0]
      rw [List.cons_append, all_step _ this]
      exact all_app b h
    · rename_i h0
      simp at h
      exact absurd h.2 h0
theorem do_slot {m : Mt} {r : Rc} {x : Mt} (hr : recR r = true) (hs : speaksB r.kd = true) (ho : othersB r.kd = false) (h3 : r.sl < 3) (h : slotM m r = (x, true)) : doM m r = (x, 0) := by
  unfold doM
  rw [if_neg (by rw [hr, hs, ho]; simp; omega), ho, h]
  simp
theorem do_other {m : Mt} {r : Rc} {x : Mt} (hr : recR r = true) (hs : speaksB r.kd = false) (ho : othersB r.kd = true) (h : otherM m r = (x, true)) : doM m r = (x, 0) := by
  unfold doM
  rw [if_neg (by rw [hr, hs, ho]; simp), ho, h]
  simp
theorem recR_of {r : Rc} (h : (0 ≤ r.kd ∧ r.kd ≤ 127) ∧ (0 ≤ r.sl ∧ r.sl ≤ 3) ∧ (0 ≤ r.no ∧ r.no ≤ 65535) ∧ (0 ≤ r.va ∧ r.va ≤ 281474976710655)) : recR r = true := by
  unfold recR
  simp [h.1.1, h.1.2, h.2.1.1, h.2.1.2, h.2.2.1.1, h.2.2.1.2, h.2.2.2.1, h.2.2.2.2]
theorem speaks_in {k : Int} (h : (1 ≤ k ∧ k ≤ 7) ∨ (100 ≤ k ∧ k ≤ 105) ∨ k = 12 ∨ k = 13 ∨ k = 110 ∨ k = 111) : speaksB k = true := by
  unfold speaksB
  simp
  omega
theorem speaks_out {k : Int} (h : k = 8 ∨ k = 9 ∨ k = 10 ∨ k = 11) : speaksB k = false ∧ othersB k = true := by
  rcases h with rfl | rfl | rfl | rfl <;> decide
theorem others_out {k : Int} (h : 100 ≤ k) : othersB k = false := by
  unfold othersB
  simp
  omega
theorem slot_told {m : Mt} {r : Rc} (h : 100 ≤ r.kd) : slotM m r = toldM m r := by
  unfold slotM
  repeat rw [if_neg (by omega)]
theorem told_state {m : Mt} {i : Int} {X : S3} (hi : 0 ≤ i ∧ i < 3) (hX : SlotP X) : doM m ⟨100 + X.st, i, 0, X.ve⟩ = (m.set i ⟨X.st, X.ve, (m.get i).ba⟩, 0) := by
  obtain ⟨h1, h2, h3, h4, h5⟩ := hX
  refine do_slot (recR_of ⟨⟨by show 0 ≤ 100 + X.st; omega, by show 100 + X.st ≤ 127; omega⟩, ⟨hi.1, by show i ≤ 3; omega⟩, ⟨by show (0 : Int) ≤ 0; omega, by show (0 : Int) ≤ 65535; omega⟩, h2⟩) (speaks_in (by show _ ∨ (100 ≤ 100 + X.st ∧ 100 + X.st ≤ 105) ∨ _; omega)) (others_out (by show 100 ≤ 100 + X.st; omega)) hi.2 ?_
  rw [slot_told (by show 100 ≤ 100 + X.st; omega)]
  unfold toldM
  dsimp only
  rw [if_neg (by omega), if_neg (by omega), show 100 + X.st - 100 = X.st by omega]
theorem told_ba {m : Mt} {i b : Int} (hi : 0 ≤ i ∧ i < 3) (hb : 0 ≤ b ∧ b ≤ 512) : doM m ⟨111, i, 0, b⟩ = (m.set i ⟨(m.get i).st, (m.get i).ve, b⟩, 0) := by
  refine do_slot (recR_of ⟨⟨by show (0 : Int) ≤ 111; omega, by show (111 : Int) ≤ 127; omega⟩, ⟨hi.1, by show i ≤ 3; omega⟩, ⟨by show (0 : Int) ≤ 0; omega, by show (0 : Int) ≤ 65535; omega⟩, ⟨hb.1, by show b ≤ _; omega⟩⟩) (by rfl) (by rfl) hi.2 ?_
  rw [slot_told (by show (100 : Int) ≤ 111; omega)]
  unfold toldM
  dsimp only
  rw [if_pos rfl, decide_eq_true hb.2]
theorem mget_set (m : Mt) {i : Int} (hi : 0 ≤ i ∧ i < 3) (X : S3) : (m.set i X).get i = X := by
  rcases (show i = 0 ∨ i = 1 ∨ i = 2 by omega) with rfl | rfl | rfl <;> rfl
theorem mset_set (m : Mt) {i : Int} (hi : 0 ≤ i ∧ i < 3) (X Y : S3) : (m.set i X).set i Y = m.set i Y := by
  rcases (show i = 0 ∨ i = 1 ∨ i = 2 by omega) with rfl | rfl | rfl <;> rfl
theorem base_slot {m : Mt} {i : Int} {X : S3} (hi : 0 ≤ i ∧ i < 3) (hX : SlotP X) (h0 : (m.get i).ba = 0) : allF (baseSlot i X) m = (m.set i X, 0) := by
  unfold baseSlot
  rw [all_step _ (told_state hi hX), h0]
  by_cases hb : X.ba = 0
  · rw [if_pos hb]
    have : (⟨X.st, X.ve, 0⟩ : S3) = X := by rw [← hb]
    rw [this]
    rfl
  · rw [if_neg hb, all_step _ (told_ba hi hX.2.2.1), mget_set _ hi, mset_set _ hi]
    rfl
theorem base_opt8 {m : Mt} {v : Int} (hv : 0 ≤ v ∧ v ≤ 281474976710655) (h : m.fl = 0) : allF (opt 8 v) m = ({ m with fl := v }, 0) := by
  unfold opt
  by_cases h0 : v = 0
  · rw [if_pos h0, h0]
    show (m, (0 : Int)) = _
    congr 1
    obtain ⟨a, b, c, d, e, g, k⟩ := m
    dsimp only at h ⊢
    rw [h]
  · rw [if_neg h0, all_step [] (do_other (recR_of ⟨by show (0 : Int) ≤ 8 ∧ (8 : Int) ≤ 127; omega, by show (0 : Int) ≤ 0 ∧ (0 : Int) ≤ 3; omega, by show (0 : Int) ≤ 0 ∧ (0 : Int) ≤ 65535; omega, hv⟩) (speaks_out (.inl rfl)).1 (speaks_out (.inl rfl)).2 (x := { m with fl := v }) ?_)]
    · rfl
    · unfold otherM
      dsimp only
      rw [if_pos rfl, if_neg (by omega)]
theorem base_opt9 {m : Mt} {v : Int} (hv : 0 ≤ v ∧ v ≤ 281474976710655) (h : m.cu = 0) : allF (opt 9 v) m = ({ m with cu := v }, 0) := by
  unfold opt
  by_cases h0 : v = 0
  · rw [if_pos h0, h0]
    show (m, (0 : Int)) = _
    congr 1
    obtain ⟨a, b, c, d, e, g, k⟩ := m
    dsimp only at h ⊢
    rw [h]
  · rw [if_neg h0, all_step [] (do_other (recR_of ⟨by show (0 : Int) ≤ 9 ∧ (9 : Int) ≤ 127; omega, by show (0 : Int) ≤ 0 ∧ (0 : Int) ≤ 3; omega, by show (0 : Int) ≤ 0 ∧ (0 : Int) ≤ 65535; omega, hv⟩) (speaks_out (.inr (.inl rfl))).1 (speaks_out (.inr (.inl rfl))).2 (x := { m with cu := v }) ?_)]
    · rfl
    · unfold otherM
      dsimp only
      rw [if_neg (by omega), if_pos rfl]
theorem base_opt10 {m : Mt} {v : Int} (hv : 0 ≤ v ∧ v ≤ 281474976710655) (h : m.it = 0) : allF (opt 10 v) m = ({ m with it := v }, 0) := by
  unfold opt
  by_cases h0 : v = 0
  · rw [if_pos h0, h0]
    show (m, (0 : Int)) = _
    congr 1
    obtain ⟨a, b, c, d, e, g, k⟩ := m
    dsimp only at h ⊢
    rw [h]
  · rw [if_neg h0, all_step [] (do_other (recR_of ⟨by show (0 : Int) ≤ 10 ∧ (10 : Int) ≤ 127; omega, by show (0 : Int) ≤ 0 ∧ (0 : Int) ≤ 3; omega, by show (0 : Int) ≤ 0 ∧ (0 : Int) ≤ 65535; omega, hv⟩) (speaks_out (.inr (.inr (.inl rfl)))).1 (speaks_out (.inr (.inr (.inl rfl)))).2 (x := { m with it := v }) ?_)]
    · rfl
    · unfold otherM
      dsimp only
      rw [if_neg (by omega), if_neg (by omega), if_pos rfl, if_neg (by omega)]
theorem base_now {m : Mt} {a : Int} (ha : 0 ≤ a ∧ a ≤ 2) : doM m ⟨110, a, 0, 0⟩ = ({ m with act := a }, 0) := by
  refine do_slot (recR_of ⟨by show (0 : Int) ≤ 110 ∧ (110 : Int) ≤ 127; omega, by show 0 ≤ a ∧ a ≤ 3; omega, by show (0 : Int) ≤ 0 ∧ (0 : Int) ≤ 65535; omega, by show (0 : Int) ≤ 0 ∧ (0 : Int) ≤ 281474976710655; omega⟩) (by rfl) (by rfl) (by show a < 3; omega) ?_
  rw [slot_told (by show (100 : Int) ≤ 110; omega)]
  unfold toldM
  dsimp only
  rw [if_neg (by omega), if_pos rfl]
theorem base_all {m : Mt} (h : RightP m) : allF (baseL m) m0 = (m, 0) := by
  obtain ⟨ha, hu, hg, ⟨p0, _⟩, ⟨p1, _⟩, ⟨p2, _⟩, _⟩ := h
  have u : unfit m.fl = false ∧ unfit m.cu = false ∧ unfit m.it = false := (show ∀ b1 b2 b3 : Bool, (b1 || b2 || b3) = false → b1 = false ∧ b2 = false ∧ b3 = false by decide) _ _ _ hu
  have e : baseL m = baseSlot 0 m.s0 ++ (baseSlot 1 m.s1 ++ (baseSlot 2 m.s2 ++ (⟨110, m.act, 0, 0⟩ :: (opt 8 m.fl ++ (opt 9 m.cu ++ opt 10 m.it))))) := by
    simp [baseL, slotsL, numsL, Mt.get]
  rw [e, all_app _ (base_slot ⟨by omega, by omega⟩ p0 rfl), all_app _ (base_slot ⟨by omega, by omega⟩ p1 rfl), all_app _ (base_slot ⟨by omega, by omega⟩ p2 rfl), all_step _ (base_now ha),
    all_app _ (base_opt8 ((unfit_iff _).1 u.1) rfl), all_app _ (base_opt9 ((unfit_iff _).1 u.2.1) rfl), base_opt10 ((unfit_iff _).1 u.2.2) rfl]
  rfl
theorem base_slot_len {i : Int} {X : S3} : (baseSlot i X).length = if X.ba = 0 then 1 else 2 := by
  unfold baseSlot
  split <;> rfl
theorem base_len {m : Mt} (h : RightP m) : (baseL m).length ≤ 9 := by
  obtain ⟨ha, hu, hg, ⟨p0, q0⟩, ⟨p1, q1⟩, ⟨p2, q2⟩, _⟩ := h
  have l8 := opt_len 8 m.fl
  have l9 := opt_len 9 m.cu
  have l10 := opt_len 10 m.it
  have e : baseL m = baseSlot 0 m.s0 ++ (baseSlot 1 m.s1 ++ (baseSlot 2 m.s2 ++ (⟨110, m.act, 0, 0⟩ :: (opt 8 m.fl ++ (opt 9 m.cu ++ opt 10 m.it))))) := by
    simp [baseL, slotsL, numsL, Mt.get]
  have b0 : m.s0.ba = 0 := by
    have := p0.2.2.2.1
    omega
  have b12 : m.s1.ba = 0 ∨ m.s2.ba = 0 := by
    have h1 := p1.2.2.2.1
    have h2 := p2.2.2.2.1
    omega
  rw [e]
  simp only [List.length_append, List.length_cons, base_slot_len, if_pos b0]
  rcases b12 with q | q
  · rw [if_pos q]; split <;> omega
  · rw [if_pos q]; split <;> omega
theorem opt_fine {k v : Int} (hk : 0 ≤ k ∧ k ≤ 125) (hv : 0 ≤ v ∧ v ≤ 281474976710655) : ∀ r ∈ opt k v, recR r = true ∧ r.kd ≤ 125 := by
  intro r hr
  unfold opt at hr
  split at hr
  · cases hr
  · simp only [List.mem_singleton] at hr
    subst hr
    exact ⟨recR_of ⟨⟨hk.1, by show k ≤ 127; omega⟩, by show (0 : Int) ≤ 0 ∧ (0 : Int) ≤ 3; omega, by show (0 : Int) ≤ 0 ∧ (0 : Int) ≤ 65535; omega, hv⟩, hk.2⟩
theorem slot_fine {i : Int} {X : S3} (hi : 0 ≤ i ∧ i < 3) (hX : SlotP X) : ∀ r ∈ baseSlot i X, recR r = true ∧ r.kd ≤ 125 := by
  obtain ⟨h1, h2, h3, h4, h5⟩ := hX
  intro r hr
  unfold baseSlot at hr
  have a : recR ⟨100 + X.st, i, 0, X.ve⟩ = true ∧ (⟨100 + X.st, i, 0, X.ve⟩ : Rc).kd ≤ 125 := ⟨recR_of ⟨⟨by show 0 ≤ 100 + X.st; omega, by show 100 + X.st ≤ 127; omega⟩, ⟨hi.1, by show i ≤ 3; omega⟩, ⟨by show (0 : Int) ≤ 0; omega, by show (0 : Int) ≤ 65535; omega⟩, h2⟩, by show 100 + X.st ≤ 125; omega⟩
  have b : recR ⟨111, i, 0, X.ba⟩ = true ∧ (⟨111, i, 0, X.ba⟩ : Rc).kd ≤ 125 := ⟨recR_of ⟨by show (0 : Int) ≤ 111 ∧ (111 : Int) ≤ 127; omega, ⟨hi.1, by show i ≤ 3; omega⟩, ⟨by show (0 : Int) ≤ 0; omega, by show (0 : Int) ≤ 65535; omega⟩, by show 0 ≤ X.ba ∧ X.ba ≤ 281474976710655; omega⟩, by show (111 : Int) ≤ 125; omega⟩
  rcases List.mem_cons.1 hr with rfl | hr
  · exact a
  · split at hr
    · cases hr
    · simp only [List.mem_singleton] at hr
      subst hr
      exact b
theorem base_fine {m : Mt} (h : RightP m) : ∀ r ∈ baseL m, recR r = true ∧ r.kd ≤ 125 := by
  obtain ⟨ha, hu, hg, ⟨p0, q0⟩, ⟨p1, q1⟩, ⟨p2, q2⟩, _⟩ := h
  have u : unfit m.fl = false ∧ unfit m.cu = false ∧ unfit m.it = false := (show ∀ b1 b2 b3 : Bool, (b1 || b2 || b3) = false → b1 = false ∧ b2 = false ∧ b3 = false by decide) _ _ _ hu
  have e : baseL m = baseSlot 0 m.s0 ++ (baseSlot 1 m.s1 ++ (baseSlot 2 m.s2 ++ (⟨110, m.act, 0, 0⟩ :: (opt 8 m.fl ++ (opt 9 m.cu ++ opt 10 m.it))))) := by
    simp [baseL, slotsL, numsL, Mt.get]
  intro r hr
  rw [e] at hr
  simp only [List.mem_append, List.mem_cons] at hr
  rcases hr with hr | hr | hr | rfl | hr | hr | hr
  · exact slot_fine ⟨by omega, by omega⟩ p0 r hr
  · exact slot_fine ⟨by omega, by omega⟩ p1 r hr
  · exact slot_fine ⟨by omega, by omega⟩ p2 r hr
  · exact ⟨recR_of ⟨by show (0 : Int) ≤ 110 ∧ (110 : Int) ≤ 127; omega, by show 0 ≤ m.act ∧ m.act ≤ 3; omega, by show (0 : Int) ≤ 0 ∧ (0 : Int) ≤ 65535; omega, by show (0 : Int) ≤ 0 ∧ (0 : Int) ≤ 281474976710655; omega⟩, by show (110 : Int) ≤ 125; omega⟩
  · exact opt_fine (by omega) ((unfit_iff _).1 u.1) r hr
  · exact opt_fine (by omega) ((unfit_iff _).1 u.2.1) r hr
  · exact opt_fine (by omega) ((unfit_iff _).1 u.2.2) r hr
theorem mv_eq (x : Mt) : aeqL [.i, .i, .i, .i, .i, .i, .i, .i, .i, .i, .i, .i, .i] (x.l.map cI) (x.l.map cI) = some true := by
  simp [aeqL, aeqC, Mt.l]
theorem bases_ok (m : Mt) (l : List Rc) (v : Value) (h : Heap) (hl : SlR h v l) : ACalls Try.prog 22 [mv m, v] h fun x _ => x = .bool true := by
  refine acalls_of mix Try.func22 k22 n22 (by simp) fun hcl hb => ?_
  have bl := hl.below hcl
  obtain ⟨a, c, rfl⟩ := hl.form
  have hm13 : ∀ x : Mt, mcells (mv x) = some (x.l.map cI) := fun _ => rfl
  have hm13' : ∀ x : Mt, mcells (.agg (x.l.map cI).toArray) = some (x.l.map cI) := fun _ => rfl
  have hag : ∀ x : Mt, Value.agg (x.l.map cI).toArray = mv x := fun _ => rfl
  have hq : ∀ x : Mt, acut (x.l.map cI) 0 13 = some (x.l.map cI) := fun _ => rfl
  have hq4 : ∀ x : Rc, acut (x.l.map cI) 0 4 = some (x.l.map cI) := fun _ => rfl
  have hm4 : ∀ x : Rc, mcells (.agg (x.l.map cI).toArray) = some (x.l.map cI) := fun _ => rfl
  have hlM : ∀ x : Mt, x.l.length = 13 := fun _ => rfl
  have hlR : ∀ x : Rc, x.l.length = 4 := fun _ => rfl
  have h00 : ∀ (x : Rc) (hx : 0 < x.l.length), x.l[0] = x.kd := fun _ _ => rfl
  have hapM : ∀ x y : Mt, aput (x.l.map cI) 0 (y.l.map cI) = y.l.map cI := fun _ _ => rfl
  have hapZ : ∀ y : Mt, aput [Value.int .i64 0, Value.int .i64 0, Value.int .i64 0, Value.int .i64 0, Value.int .i64 0, Value.int .i64 0, Value.int .i64 0, Value.int .i64 0, Value.int .i64 0, Value.int .i64 0, Value.int .i64 0, Value.int .i64 0, Value.int .i64 0] 0 (y.l.map cI) = y.l.map cI := fun _ => rfl
  have hapR : ∀ y : Rc, aput [Value.int .i64 0, Value.int .i64 0, Value.int .i64 0, Value.int .i64 0] 0 (y.l.map cI) = y.l.map cI := fun _ => rfl
  have hcB : (h.push (.cells (m.l.map cI) .ex 1)).Closed := closed_push hcl (fun x hx => by obtain ⟨y, _, rfl⟩ := List.mem_map.1 hx; exact .int)
  have hsubB : h.Sub h.n (h.push (.cells (m.l.map cI) .ex 1)) := ((Heap.Ext.refl h).push hcl _).sub hcl
  simp [c22, hm13]
  refine (mawake_ok _).mono ?_
  rintro v1 h1 ⟨rfl, e⟩
  have hn1 : h1.n = h.n + 1 := by rw [e]; simp
  have f0 : h1.cellsOf h.n = some (m.l.map cI, .ex, 1) := by rw [e]; exact cellsOf_new _ _ _ _
  have hl1 : SlR h1 (.slice a l.length c) l := SlR.keep hl (by rw [e]; exact hsubB.sub)
  rw [← e] at hcB hsubB
  clear e
  simp [aun]
  by_cases hbig : 200 < l.length
  · have : (200 : Int) < l.length := by omega
    simp [this]
  have hbig' : ¬ (200 : Int) < l.length := by omega
  simp [hbig']
  refine (new_ok _).mono ?_
  rintro v1 h2 ⟨rfl, e⟩
  rw [e]
  clear e h2
  have hcM : ∀ m : Mt, (h1.push (.cells (m.l.map cI) .ex 1)).Closed := fun m => closed_push hcB (fun x hx => by obtain ⟨y, _, rfl⟩ := List.mem_map.1 hx; exact .int)
  simp [hm13, hlM, cellsOf_at, cellsOf_ne, hapM, hapZ, hapR, set_at, push_set]
  have bl1 : VBelow (h1.n + 1) (.slice a l.length c) := bl.mono (by omega)
  refine awp_loop_of (α := Nat × Mt) (fun x => x.1 ≤ l.length) (fun x => [(2, .pointer (some ⟨h.n, 0, none⟩)), (5, .pointer (some ⟨h1.n, 0, none⟩)), (21, .slice a l.length c), (22, .int .i64 l.length), (23, .int .i64 x.1)])
    (fun x => h1.push (.cells (x.2.l.map cI) .ex 1)) (fun x => l.length - x.1) (0, m0) (Nat.zero_le _) ⟨by show h.n ≤ h1.n + 1; omega, Nat.le_refl _, fun _ _ e => e, hcM m0⟩
    (by simp; exact ⟨.ptr (by show h.n < h1.n + 1; omega), .ptr (Nat.lt_succ_self _), bl1, .int, .int⟩) ?_
  rintro ⟨i, X⟩ hi
  dsimp only at hi
  by_cases hlt : i < l.length
  · obtain ⟨b1, o1, cs1, m1, e1, rfl, _, g1, g1'⟩ := hl1.at hlt
    have hb1 := cellsOf_lt hcB g1
    have g1M : (h1.push (.cells (X.l.map cI) .ex 1)).cellsOf b1 = some (cs1, m1, e1) := cellsOf_push hcB g1
    have hw : IntKind.i64.wrap ((i : Int) + 1) = ((i + 1 : Nat) : Int) := by rw [i64_small (by omega) (by omega)]; omega
    simp [hlt, aidx_of hlt, g1M, apart, g1', hm4, hlR, hlM, cellsOf_at, cellsOf_ne, hapM, hapZ, hapR, set_at, push_set, hq, hq4]
    refine (do_ok X l[i] _).mono ?_
    rintro v1 h2 ⟨rfl, e⟩
    subst e
    generalize (doM X l[i]).1 = Y
    generalize (doM X l[i]).2 = E
    simp [hm13, hlM, cellsOf_at, cellsOf_ne, hapM, hapZ, hapR, set_at, push_set, apart, hq]
    refine ⟨i + 1, by omega, by omega, ⟨Y, ⟨by show h.n ≤ h1.n + 1; omega, by show h1.n + 1 ≤ h1.n + 1 + 1; omega, fun x o e => ?_, hcM Y⟩⟩, .ptr (by show h.n < h1.n + 1; omega), .ptr (Nat.lt_succ_self _), bl1, .int, hw, .int⟩
    have hx : x < h1.n + 1 := (hcM Y x o e).1
    rw [push_m, if_neg (by show ¬ x = h1.n + 1; omega)]
    exact e
  have hie : i = l.length := by omega
  subst hie
  have f1 : (h1.push (.cells (X.l.map cI) .ex 1)).cellsOf h.n = some (m.l.map cI, .ex, 1) := cellsOf_push hcB f0
  have hdr : List.drop 26 (m.l.map cI ++ [Value.int .i64 0, Value.int .i64 0, Value.int .i64 0, Value.int .i64 0, Value.int .i64 0, Value.int .i64 0, Value.int .i64 0, Value.int .i64 0, Value.int .i64 0, Value.int .i64 0, Value.int .i64 0, Value.int .i64 0, Value.int .i64 0]) = [] := rfl
  simp [f1, apart, hq, hm13', hlM, cellsOf_at, afill, hdr]
  have h26c : ∀ x ∈ m.l.map cI ++ X.l.map cI, ∀ n, VBelow n x := fun x hx n => by
    rcases List.mem_append.1 hx with hx | hx
    · obtain ⟨y, _, rfl⟩ := List.mem_map.1 hx; exact .int
    · obtain ⟨y, _, rfl⟩ := List.mem_map.1 hx; exact .int
  have q26 : ∀ j : Nat, j < 2 → ∃ Y : Mt, acut (m.l.map cI ++ X.l.map cI) (j * 13) 13 = some (Y.l.map cI) := fun j hj => by
    match j, hj with
    | 0, _ => exact ⟨m, rfl⟩
    | 1, _ => exact ⟨X, rfl⟩
  generalize m.l.map cI ++ X.l.map cI = AG at *
  have hcG : ((h1.push (.cells (X.l.map cI) .ex 1)).push (.cells AG .ex 1)).Closed := closed_push (hcM X) (fun x hx => h26c x hx _)
  have fG : ((h1.push (.cells (X.l.map cI) .ex 1)).push (.cells AG .ex 1)).cellsOf (h1.n + 1) = some (AG, .ex, 1) := by simp [cellsOf_at]
  have hnG : ((h1.push (.cells (X.l.map cI) .ex 1)).push (.cells AG .ex 1)).n = h1.n + 1 + 1 := rfl
  generalize hG : (h1.push (.cells (X.l.map cI) .ex 1)).push (.cells AG .ex 1) = G at *
  refine awp_loop_of (α := Nat) (fun x => x ≤ 2) (fun x => [(36, .slice (some ⟨h1.n + 1, 0, none⟩) 2 2), (37, .int .i64 2), (38, .int .i64 x)])
    (fun x => G) (fun x => 2 - x) 0 (by show 0 ≤ 2; omega) ⟨by omega, Nat.le_refl _, fun _ _ e => e, hcG⟩
    (by simp; exact ⟨.slice (by show h1.n + 1 < G.n; omega), .int, .int⟩) ?_
  intro i hi
  by_cases hi2 : i < 2
  case neg =>
    have hie : i = 2 := by omega
    subst hie
    simp
  have hi2' : (i : Int) < 2 := by omega
  have hw : IntKind.i64.wrap ((i : Int) + 1) = ((i + 1 : Nat) : Int) := by rw [i64_small (by omega) (by omega)]; omega
  obtain ⟨Y, hY⟩ := q26 i hi2
  simp [hi2, hi2', aidx_of hi2, fG, apart, hY, hm13', hm13, hlM, cellsOf_at, cellsOf_ne, hapM, hapZ, hapR, set_at, push_set, hq, hag]
  have hcY : (G.push (.cells (Y.l.map cI) .ex 1)).Closed := closed_push hcG (fun x hx => by obtain ⟨y, _, rfl⟩ := List.mem_map.1 hx; exact .int)
  have fY : (G.push (.cells (Y.l.map cI) .ex 1)).cellsOf G.n = some (Y.l.map cI, .ex, 1) := cellsOf_new _ _ _ _
  have subG : ∀ {H : Heap}, (G.push (.cells (Y.l.map cI) .ex 1)).Sub (G.n + 1) H → G.Sub h.n H := fun s => ⟨by omega, by have := s.hi; have : G.n + 1 ≤ _ := this; omega, fun b ob e => s.sub b ob (by rw [push_m, if_neg (by have := (hcG b ob e).1; omega)]; exact e), hcG⟩
  have nG : (G.push (.cells (Y.l.map cI) .ex 1)).n = G.n + 1 := rfl
  refine (base_ok Y _).mono' ?_
  rintro vb H2 hcH2 bvb ⟨hS, hsub2⟩
  rw [nG] at hsub2
  have fY2 : H2.cellsOf G.n = some (Y.l.map cI, .ex, 1) := cellsOf_keep hsub2.sub fY
  simp [fY2, apart, hq, hlM, hag]
  refine (plain_ok Y _).mono ?_
  rintro v1 h3 ⟨rfl, e⟩
  rw [e]
  clear e h3
  simp
  refine (refRightM_ok Y _).mono ?_
  rintro v1 h3 ⟨rfl, e⟩
  rw [e]
  clear e h3
  have fin : ∀ {H}, (∀ b ob, H2.m b = some ob → H.m b = some ob) → H2.n ≤ H.n → G.Sub h.n H := fun hs hn => ⟨by omega, by have := hsub2.hi; have : G.n + 1 ≤ _ := this; omega, fun b ob e => hs b ob ((subG hsub2).sub b ob e), hcG⟩
  by_cases hR : RightP Y
  case neg =>
    rw [if_neg hR] at hS
    obtain ⟨a2, c2, rfl⟩ := hS.form
    simp [aun, hR, fY2, apart, hq, hlM, hag]
    refine (mright_ok Y _).mono ?_
    rintro v1 h3 ⟨rfl, e⟩
    rw [e]
    clear e h3
    simp [hR]
    exact ⟨i + 1, by omega, by omega, subG hsub2, .slice (by show h1.n + 1 < G.n; omega), .int, hw, .int⟩
  rw [if_pos hR] at hS
  have hlen := base_len hR
  have hfine := base_fine hR
  have hall := base_all hR
  generalize hB : baseL Y = B at *
  obtain ⟨a2, c2, rfl⟩ := hS.form
  simp [aun, hR]
  refine (all_ok B _ _ hS (by omega)).mono ?_
  rintro v1 h3 ⟨rfl, e⟩
  rw [e]
  clear e h3
  rw [hall]
  have gl2 : G.n < H2.n := cellsOf_lt hcH2 fY2
  have fY3 : (H2.push (.cells (Y.l.map cI) .ex 1)).cellsOf G.n = some (Y.l.map cI, .ex, 1) := cellsOf_push hcH2 fY2
  have hcH3 : (H2.push (.cells (Y.l.map cI) .ex 1)).Closed := closed_push hcH2 (fun x hx => by obtain ⟨y, _, rfl⟩ := List.mem_map.1 hx; exact .int)
  have hin3 : ∀ b ob, H2.m b = some ob → (H2.push (.cells (Y.l.map cI) .ex 1)).m b = some ob := fun b ob e => by rw [push_m, if_neg (by have := (hcH2 b ob e).1; omega)]; exact e
  have hS3 := SlR.keep hS hin3
  have hn3 : (H2.push (.cells (Y.l.map cI) .ex 1)).n = H2.n + 1 := rfl
  have hl9 : ¬ (9 : Int) < B.length := by omega
  simp [fY2, fY3, apart, hq, hlM, hm13, hapZ, cellsOf_at, set_at, hag]
  simp [mv, mcells, mv_eq, hl9, fY3, apart, hq, hlM, aun]
  rw [hag]
  refine (mright_ok Y _).mono ?_
  rintro v1 h3 ⟨rfl, e⟩
  rw [e]
  clear e h3
  simp [hR, aun]
  generalize hH3 : H2.push (.cells (Y.l.map cI) .ex 1) = H3 at *
  refine awp_loop_of (α := Nat) (fun x => x ≤ B.length) (fun x => [(36, .slice (some ⟨h1.n + 1, 0, none⟩) 2 2), (37, .int .i64 2), (38, .int .i64 i), (77, .slice a2 B.length c2), (78, .int .i64 B.length), (79, .int .i64 x)])
    (fun x => H3) (fun x => B.length - x) 0 (Nat.zero_le _) ⟨by have := hsub2.hi; have : G.n + 1 ≤ _ := this; omega, Nat.le_refl _, fun _ _ e => e, hcH3⟩
    (by simp; exact ⟨.slice (by show h1.n + 1 < H3.n; omega), .int, .int, bvb.mono (by omega), .int, .int⟩) ?_
  intro k hk
  by_cases hkl : k < B.length
  case neg =>
    have hke : k = B.length := by omega
    subst hke
    simp
    exact ⟨i + 1, by omega, by omega, fin hin3 (by omega), .slice (by show h1.n + 1 < G.n; omega), .int, hw, .int⟩
  have hkl' : (k : Int) < B.length := by omega
  have hwk : IntKind.i64.wrap ((k : Int) + 1) = ((k + 1 : Nat) : Int) := by rw [i64_small (by omega) (by omega)]; omega
  obtain ⟨b4, o4, cs4, m4, e4, rfl, _, g4, g4'⟩ := hS3.at hkl
  have hb4 := cellsOf_lt hcH3 g4
  obtain ⟨r1, r2⟩ := hfine B[k] (List.getElem_mem hkl)
  generalize hr : B[k] = r at *
  simp [hkl, hkl', aidx_of hkl, g4, apart, g4', hm4, hlR, cellsOf_at, cellsOf_ne, hapR, set_at, push_set, hq4]
  refine (rec14_ok r _).mono ?_
  rintro v1 h4 ⟨rfl, e⟩
  rw [e]
  clear e h4
  have h125 : ¬ 125 < r.kd := by omega
  simp [r1, aun, cellsOf_at, apart, h00, h125, hlR]
  refine ⟨k + 1, by omega, by omega, ⟨by have := hsub2.hi; have : G.n + 1 ≤ _ := this; omega, Nat.le_succ _, fun b ob e => by rw [push_m, if_neg (by have := (hcH3 b ob e).1; omega)]; exact e, hcH3⟩, .slice (by show h1.n + 1 < H3.n; omega), .int, .int, bvb.mono (by omega), .int, hwk, .int⟩
/-! what is numbers alone, however it is nested -/
section
open Go.RowKit Go.ChangeShapes Go.WideShapes
variable {H : Type} {P : Program} {W : World} {enc : TypeId × Value → H}
def FlatT (enc : TypeId × Value → H) (P : Program) (W : World) (t : TypeId) : Prop :=
  ∀ b sp hh fuel cs x, DataW.trod enc P W b sp hh fuel t cs = some x → cs.length = P.cellsOf t ∧ ∀ c ∈ cs, ∃ n, c = Value.int .i64 n ∧ (Lit.int .i64 n).wf = true
theorem flat_int {t : TypeId} (h : P.underlying t = some (.int .i64)) (h1 : P.cellsOf t = 1) : FlatT enc P W t := fun b sp hh fuel cs x hx => by
  obtain ⟨n, hn, _, wf⟩ := DataW.trod_int h hx
  rw [hn, h1]
  refine ⟨rfl, fun c hc => ?_⟩
  simp only [List.mem_singleton] at hc
  exact ⟨n, hc, wf⟩
theorem flat_array {t e : TypeId} {n : Nat} (h : P.underlying t = some (.array n e)) (he : FlatT enc P W e) (hc : P.cellsOf t = n * P.cellsOf e) : FlatT enc P W t := fun b sp hh fuel cs x hx => by
  obtain ⟨xs, m, _, _, hl0, hl, hi⟩ := DataW.trod_array h hx
  refine ⟨hl0, fun c hcm => ?_⟩
  obtain ⟨j, hj, rfl⟩ := List.mem_iff_getElem.1 hcm
  have hpos : 0 < P.cellsOf e := by
    rcases Nat.eq_zero_or_pos (P.cellsOf e) with q | q
    · rw [hl0, hc, q] at hj; simp at hj
    · exact q
  have hjn : j / P.cellsOf e < n := by rw [Nat.div_lt_iff_lt_mul hpos, ← hc, ← hl0]; exact hj
  have hx2 := hi _ hjn
  rw [List.getElem?_eq_getElem (by omega)] at hx2
  refine (he _ _ _ _ _ _ hx2).2 _ (List.mem_iff_getElem.2 ⟨j % P.cellsOf e, ?_, ?_⟩)
  · have := Nat.mod_lt j hpos
    have := Nat.div_add_mod' j (P.cellsOf e)
    have := Nat.div_add_mod j (P.cellsOf e)
    have hm : (j / P.cellsOf e + 1) * P.cellsOf e ≤ n * P.cellsOf e := Nat.mul_le_mul_right _ hjn
    rw [Nat.add_mul] at hm
    simp only [List.length_take, List.length_drop]
    omega
  · have := Nat.div_add_mod' j (P.cellsOf e)
    simp only [List.getElem_take, List.getElem_drop]
    congr 1
theorem flat_struct {t : TypeId} {fs : Array Field} (h : P.underlying t = some (.struct fs))
    (cover : ∀ j, j < P.cellsOf t → ∃ (i : Nat) (f : Field), fs[i]? = some f ∧ f.offset ≤ j ∧ j < f.offset + P.cellsOf f.type ∧ FlatT enc P W f.type) : FlatT enc P W t := fun b sp hh fuel cs x hx => by
  obtain ⟨xs, m, _, _, hl0, hl, hi⟩ := DataW.trod_struct h hx
  refine ⟨hl0, fun c hcm => ?_⟩
  obtain ⟨j, hj, rfl⟩ := List.mem_iff_getElem.1 hcm
  obtain ⟨i, f, hf, h1, h2, h3⟩ := cover j (by omega)
  have hx2 := hi i f hf
  have hif : i < fs.size := (Array.getElem?_eq_some_iff.1 hf).1
  rw [List.getElem?_eq_getElem (by omega)] at hx2
  refine (h3 _ _ _ _ _ _ hx2).2 _ (List.mem_iff_getElem.2 ⟨j - f.offset, ?_, ?_⟩)
  · simp only [List.length_take, List.length_drop]
    omega
  · simp only [List.getElem_take, List.getElem_drop]
    congr 1
    omega
theorem ints_list : ∀ {cs : List Value}, (∀ c ∈ cs, ∃ n, c = Value.int .i64 n ∧ (Lit.int .i64 n).wf = true) → ∃ xs : List Int, cs = xs.map (Value.int .i64) ∧ ∀ x ∈ xs, (Lit.int .i64 x).wf = true
  | [], _ => ⟨[], rfl, fun x hx => by cases hx⟩
  | c :: cs, h => by
    obtain ⟨xs, h1, h2⟩ := ints_list (cs := cs) fun y hy => h y (by simp [hy])
    obtain ⟨n, rfl, wf⟩ := h c (by simp)
    refine ⟨n :: xs, by rw [h1]; rfl, fun y hy => ?_⟩
    rcases List.mem_cons.1 hy with rfl | hy
    · exact wf
    · exact h2 y hy
theorem open_flat {t : TypeId} {fs : Array Field} {n : Nat} {v : Value} {d : DataW H} {ps : List MemPlace} (ht : P.underlying t = some (.struct fs)) (hn : P.cellsOf t = n) (hF : FlatT enc P W t)
    {r : Reach} {b : Nat} (hval : Value.okWide P W r b t v) {sp : Nat → Bool} {hh : Bool} (hd : DataW.Trod enc P W 0 sp hh t v d ps) :
    ∃ xs : List Int, v = .agg (xs.map (Value.int .i64)).toArray ∧ xs.length = n ∧ ∀ x ∈ xs, (Lit.int .i64 x).wf = true := by
  obtain ⟨cs, rfl, hsz⟩ := okWide_struct ht hval
  obtain ⟨fuel, h⟩ := hd
  obtain ⟨hl, hall⟩ := hF _ _ _ _ _ _ h
  obtain ⟨xs, h1, h2⟩ := ints_list hall
  have e : (Value.agg cs).cells.toList = cs.toList := rfl
  refine ⟨xs, ?_, ?_, h2⟩
  · rw [← h1, e]
  · have := congrArg List.length h1
    rw [List.length_map, hl, hn] at this
    exact this.symm
end
theorem flat136 {H : Type} {W : World} {enc : TypeId × Value → H} : FlatT enc Try.prog W 136 := by
  have i3 : FlatT enc Try.prog W 3 := flat_int Try.underlying3 (by kernel_rfl)
  have s133 : FlatT enc Try.prog W 133 := by
    refine flat_struct Try.underlying133 fun j hj => ?_
    have : j < 3 := by have e : Try.prog.cellsOf 133 = 3 := by kernel_rfl
                       omega
    have c3 : Try.prog.cellsOf 3 = 1 := by kernel_rfl
    have fl3 : ∀ {k : Nat}, k < k + Try.prog.cellsOf 3 := by intro k; omega
    match j, this with
    | 0, _ => exact ⟨0, _, rfl, Nat.le_refl _, fl3, i3⟩
    | 1, _ => exact ⟨1, _, rfl, Nat.le_refl _, fl3, i3⟩
    | 2, _ => exact ⟨2, _, rfl, Nat.le_refl _, fl3, i3⟩
  have a134 : FlatT enc Try.prog W 134 := flat_array Try.underlying134 s133 (by kernel_rfl)
  refine flat_struct Try.underlying136 fun j hj => ?_
  have : j < 13 := by have e : Try.prog.cellsOf 136 = 13 := by kernel_rfl
                      omega
  have c3 : Try.prog.cellsOf 3 = 1 := by kernel_rfl
  have fl3 : ∀ {k : Nat}, k < k + Try.prog.cellsOf 3 := by intro k; omega
  have c9 : Try.prog.cellsOf 134 = 9 := by kernel_rfl
  by_cases h9 : j < 9
  · exact ⟨0, _, rfl, Nat.zero_le _, (by show j < 0 + Try.prog.cellsOf 134; omega), a134⟩
  · match j, this, h9 with
    | 9, _, _ => exact ⟨1, _, rfl, Nat.le_refl _, fl3, i3⟩
    | 10, _, _ => exact ⟨2, _, rfl, Nat.le_refl _, fl3, i3⟩
    | 11, _, _ => exact ⟨3, _, rfl, Nat.le_refl _, fl3, i3⟩
    | 12, _, _ => exact ⟨4, _, rfl, Nat.le_refl _, fl3, i3⟩
theorem len13 {l : List Int} (h : l.length = 13) : ∃ m : Mt, l = m.l := by
  match l, h with
  | [a, b, c, d, e, f, g, i, j, k, m, n, o], _ => exact ⟨⟨⟨a, b, c⟩, ⟨d, e, f⟩, ⟨g, i, j⟩, k, m, n, o⟩, rfl⟩
end Go.Proofs.Ythhhcpbkedikfaa.metab
