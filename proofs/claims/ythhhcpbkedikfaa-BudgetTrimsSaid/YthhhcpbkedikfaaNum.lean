/-
  Contracts.
-/
import Derived.Test.YthhhcpbkedikfaaAbEnter
import Derived.Test.YthhhcpbkedikfaaProg
import Derived.IntWalk
import Derived.KernelRfl
set_option linter.unusedSimpArgs false
set_option linter.unusedVariables false
namespace Go.Proofs.Ythhhcpbkedikfaa.num
open Go Go.Ab Go.Proofs Go.RowKit
set_option maxRecDepth 100000
attribute [local simp] s_ops s_seq s_cond s_cond_t s_cond_f s_block s_exit s_ret s_skip s_then_n s_then_n' s_then_e s_then_e' s_then_r s_then_r' s_block_n s_block_r s_block_e s_post_r s_post_n s_res0 s_res1 s_res2 s_res3 s_res4 s_nil s_cons s_guard s_guard_tt s_guard_ff s_guard_tf s_guard_ft s_guard_u s_call s_kL s_put s_put0 s_set s_tmp s_const s_func s_init s_mkF s_mkF0 s_mv s_bin s_pick s_op aop oK_some oK_none bK_some bK_none b_add b_sub b_mul b_quo b_rem b_and b_or b_xor b_andNot b_shl b_shr b_eql b_neq b_lss b_leq b_gtr b_geq b_sadd b_seql b_sneq b_slss b_sleq b_sgtr b_sgeq s_draw s_drawT s_tK s_tT s_tF s_tB s_tR s_stage s_stage0 s_kW s_kR s_rc0 s_rc s_rcg rK_some rK_none rG_b rG_u s_callv s_callv_f s_nextM s_postR_r s_postR_n s_resA0 s_resAt s_resAc s_resC s_tup0 s_tup1 s_tup2 s_tup3
theorem mix : Try.prog.follows .mixedOrders = true := by kernel_rfl
def c98 : AC := .seq (.ops [⟨ some 2, none, .mv (.const (.bool false)) ⟩]) (.seq (.ops [⟨ some 3, none, .mv (.tmp 0) ⟩, ⟨ some 4, none, .bin .lss (.tmp 3) (.const (.int .i64 1)) ⟩, ⟨ some 5, none, .mv (.tmp 4) ⟩, ⟨ some 6, some (5, false), .mv (.tmp 0) ⟩, ⟨ some 7, some (5, false), .bin .gtr (.tmp 6) (.const (.int .i64 7)) ⟩, ⟨ some 8, none, .pick (.tmp 5) (.const (.bool true)) (.tmp 7) ⟩, ⟨ some 2, none, .mv (.tmp 8) ⟩]) .ret)
theorem k98 : compF Try.prog Try.f98 = some (c98, [2]) := by kernel_rfl
theorem n98 : Try.f98.ntmps = 9 := by kernel_rfl
def c24 : AC := .seq (.ops [⟨ some 4, none, .mv (.const (.string ⟨ ⟨[] ⟩ ⟩)) ⟩, ⟨ some 5, none, .mv (.const (.int .i64 0)) ⟩]) (.seq (.seq (.ops [⟨ some 10, none, .mv (.tmp 0) ⟩, ⟨ some 11, none, .call 98 [.tmp 10] ⟩]) (.cond (.tmp 11) (.seq (.ops [⟨ some 4, none, .mv (.const (.string ⟨ ⟨[] ⟩ ⟩)) ⟩, ⟨ some 5, none, .mv (.const (.int .i64 1)) ⟩]) .ret) .skip)) (.seq (.ops [⟨ some 6, none, .mv (.const (.slice none 0 0)) ⟩]) (.seq (.seq (.ops [⟨ some 12, none, .mv (.tmp 1) ⟩, ⟨ some 13, none, .lenS false (.tmp 12) ⟩, ⟨ some 14, none, .mv (.const (.int .i64 0)) ⟩]) (.block 0 (.loop (.seq (.ops [⟨ some 15, none, .bin .lss (.tmp 14) (.tmp 13) ⟩]) (.seq (.cond (.tmp 15) .skip (.exit 0)) (.seq (.block 1 (.seq (.ops [⟨ some 16, none, .iAddrS 1 (.tmp 12) (.tmp 14) ⟩, ⟨ some 17, none, .load none (.tmp 16) ⟩, ⟨ some 8, none, .mv (.tmp 17) ⟩]) (.seq (.seq (.ops [⟨ some 18, none, .mv (.tmp 8) ⟩, ⟨ some 19, none, .bin .lss (.tmp 18) (.const (.int .i64 0)) ⟩, ⟨ some 20, none, .mv (.tmp 19) ⟩, ⟨ some 21, some (20, false), .mv (.tmp 8) ⟩, ⟨ some 22, some (20, false), .mv (.tmp 0) ⟩, ⟨ some 23, some (20, false), .bin .mul (.const (.int .i64 8)) (.tmp 22) ⟩, ⟨ some 24, some (20, false), .bin .shr (.tmp 21) (.tmp 23) ⟩, ⟨ some 25, some (20, false), .bin .neq (.tmp 24) (.const (.int .i64 0)) ⟩, ⟨ some 26, none, .pick (.tmp 20) (.const (.bool true)) (.tmp 25) ⟩]) (.cond (.tmp 26) (.seq (.ops [⟨ some 4, none, .mv (.const (.string ⟨ ⟨[] ⟩ ⟩)) ⟩, ⟨ some 5, none, .mv (.const (.int .i64 2)) ⟩]) .ret) .skip)) (.seq (.ops [⟨ some 27, none, .mv (.tmp 0) ⟩, ⟨ some 28, none, .mv (.const (.int .i64 0)) ⟩]) (.block 2 (.loop (.seq (.ops [⟨ some 29, none, .bin .lss (.tmp 28) (.tmp 27) ⟩]) (.seq (.cond (.tmp 29) .skip (.exit 2)) (.seq (.block 3 (.seq (.ops [⟨ some 30, none, .mv (.tmp 28) ⟩, ⟨ some 9, none, .mv (.tmp 30) ⟩]) (.ops [⟨ some 31, none, .mv (.tmp 6) ⟩, ⟨ some 32, none, .mv (.tmp 8) ⟩, ⟨ some 33, none, .mv (.tmp 0) ⟩, ⟨ some 34, none, .bin .sub (.tmp 33) (.const (.int .i64 1)) ⟩, ⟨ some 35, none, .mv (.tmp 9) ⟩, ⟨ some 36, none, .bin .sub (.tmp 34) (.tmp 35) ⟩, ⟨ some 37, none, .bin .mul (.const (.int .i64 8)) (.tmp 36) ⟩, ⟨ some 38, none, .bin .shr (.tmp 32) (.tmp 37) ⟩, ⟨ some 39, none, .toInt .u8 (.tmp 38) ⟩, ⟨ some 40, none, .buildS 1 [.int .u8 0] [(0, 1, .tmp 39)] ⟩, ⟨ some 41, none, .app 1 1 5 (.tmp 31) (.tmp 40) ⟩, ⟨ some 6, none, .mv (.tmp 41) ⟩]))) (.ops [⟨ some 42, none, .bin .add (.tmp 28) (.const (.int .i64 1)) ⟩, ⟨ some 28, none, .mv (.tmp 42) ⟩])))))))))) (.ops [⟨ some 43, none, .bin .add (.tmp 14) (.const (.int .i64 1)) ⟩, ⟨ some 14, none, .mv (.tmp 43) ⟩]))))))) (.seq (.ops [⟨ some 44, none, .mv (.tmp 6) ⟩, ⟨ some 45, none, .toStr (.tmp 44) ⟩, ⟨ some 4, none, .mv (.tmp 45) ⟩, ⟨ some 5, none, .mv (.const (.int .i64 0)) ⟩]) .ret))))
theorem k24 : compF Try.prog Try.f24 = some (c24, [4, 5]) := by kernel_rfl
theorem n24 : Try.f24.ntmps = 46 := by kernel_rfl
def c23 : AC := .seq (.ops [⟨ some 0, none, .mv (.const (.bool false)) ⟩]) (.seq (.ops [⟨ some 4, none, .buildS 2 [.int .i64 0, .int .i64 0] [(0, 1, .const (.int .i64 1)), (1, 1, .const (.int .i64 256))] ⟩, ⟨ some 5, none, .call 24 [.const (.int .i64 2), .tmp 4] ⟩, ⟨ some 3, none, .mv (.tmp 5) ⟩, ⟨ some 6, none, .extr (.tmp 3) 0 ⟩, ⟨ some 7, none, .extr (.tmp 3) 1 ⟩, ⟨ some 1, none, .mv (.tmp 6) ⟩, ⟨ some 2, none, .mv (.tmp 7) ⟩]) (.seq (.ops [⟨ some 8, none, .mv (.tmp 2) ⟩, ⟨ some 9, none, .bin .eql (.tmp 8) (.const (.int .i64 0)) ⟩, ⟨ some 10, none, .mv (.tmp 9) ⟩, ⟨ some 11, some (10, true), .mv (.tmp 1) ⟩, ⟨ some 12, some (10, true), .bin .eql (.tmp 11) (.const (.string ⟨ ⟨[0, 1, 1, 0] ⟩ ⟩)) ⟩, ⟨ some 13, none, .pick (.tmp 10) (.tmp 12) (.const (.bool false)) ⟩, ⟨ some 0, none, .mv (.tmp 13) ⟩]) .ret))
theorem k23 : compF Try.prog Try.f23 = some (c23, [0]) := by kernel_rfl
theorem n23 : Try.f23.ntmps = 14 := by kernel_rfl
def c3 : AC := .seq (.ops [⟨ some 6, none, .mv (.const (.bool false)) ⟩]) (.seq (.seq (.ops [⟨ some 11, none, .call 23 [] ⟩, ⟨ some 12, none, .un .not (.tmp 11) ⟩]) (.cond (.tmp 12) (.seq (.ops [⟨ some 6, none, .mv (.const (.bool false)) ⟩]) .ret) .skip)) (.seq (.ops [⟨ some 14, none, .mv (.tmp 0) ⟩, ⟨ some 15, none, .mv (.tmp 1) ⟩, ⟨ some 16, none, .buildS 1 [.int .i64 0] [(0, 1, .tmp 15)] ⟩, ⟨ some 17, none, .call 24 [.tmp 14, .tmp 16] ⟩, ⟨ some 13, none, .mv (.tmp 17) ⟩, ⟨ some 18, none, .extr (.tmp 13) 0 ⟩, ⟨ some 19, none, .extr (.tmp 13) 1 ⟩, ⟨ some 7, none, .mv (.tmp 18) ⟩, ⟨ some 8, none, .mv (.tmp 19) ⟩]) (.seq (.ops [⟨ some 21, none, .mv (.tmp 0) ⟩, ⟨ some 22, none, .mv (.tmp 2) ⟩, ⟨ some 23, none, .buildS 1 [.int .i64 0] [(0, 1, .tmp 22)] ⟩, ⟨ some 24, none, .call 24 [.tmp 21, .tmp 23] ⟩, ⟨ some 20, none, .mv (.tmp 24) ⟩, ⟨ some 25, none, .extr (.tmp 20) 0 ⟩, ⟨ some 26, none, .extr (.tmp 20) 1 ⟩, ⟨ some 9, none, .mv (.tmp 25) ⟩, ⟨ some 10, none, .mv (.tmp 26) ⟩]) (.seq (.seq (.ops [⟨ some 27, none, .mv (.tmp 8) ⟩, ⟨ some 28, none, .bin .neq (.tmp 27) (.const (.int .i64 0)) ⟩, ⟨ some 29, none, .mv (.tmp 28) ⟩, ⟨ some 30, some (29, false), .mv (.tmp 10) ⟩, ⟨ some 31, some (29, false), .bin .neq (.tmp 30) (.const (.int .i64 0)) ⟩, ⟨ some 32, none, .pick (.tmp 29) (.const (.bool true)) (.tmp 31) ⟩]) (.cond (.tmp 32) (.seq (.ops [⟨ some 6, none, .mv (.const (.bool true)) ⟩]) .ret) .skip)) (.seq (.ops [⟨ some 33, none, .mv (.tmp 1) ⟩, ⟨ some 34, none, .mv (.tmp 2) ⟩, ⟨ some 35, none, .bin .lss (.tmp 33) (.tmp 34) ⟩, ⟨ some 36, none, .mv (.tmp 7) ⟩, ⟨ some 37, none, .mv (.tmp 9) ⟩, ⟨ some 38, none, .bin .lss (.tmp 36) (.tmp 37) ⟩, ⟨ some 39, none, .eqv false .bool (.tmp 35) (.tmp 38) ⟩, ⟨ some 40, none, .mv (.tmp 39) ⟩, ⟨ some 41, some (40, true), .mv (.tmp 1) ⟩, ⟨ some 42, some (40, true), .mv (.tmp 2) ⟩, ⟨ some 43, some (40, true), .bin .eql (.tmp 41) (.tmp 42) ⟩, ⟨ some 44, some (40, true), .mv (.tmp 7) ⟩, ⟨ some 45, some (40, true), .mv (.tmp 9) ⟩, ⟨ some 46, some (40, true), .bin .eql (.tmp 44) (.tmp 45) ⟩, ⟨ some 47, some (40, true), .eqv false .bool (.tmp 43) (.tmp 46) ⟩, ⟨ some 48, none, .pick (.tmp 40) (.tmp 47) (.const (.bool false)) ⟩, ⟨ some 49, none, .mv (.tmp 48) ⟩, ⟨ some 50, some (49, true), .mv (.tmp 7) ⟩, ⟨ some 51, some (49, true), .lenS true (.tmp 50) ⟩, ⟨ some 52, some (49, true), .mv (.tmp 0) ⟩, ⟨ some 53, some (49, true), .bin .eql (.tmp 51) (.tmp 52) ⟩, ⟨ some 54, none, .pick (.tmp 49) (.tmp 53) (.const (.bool false)) ⟩, ⟨ some 55, none, .mv (.tmp 54) ⟩, ⟨ some 56, some (55, true), .mv (.tmp 9) ⟩, ⟨ some 57, some (55, true), .lenS true (.tmp 56) ⟩, ⟨ some 58, some (55, true), .mv (.tmp 0) ⟩, ⟨ some 59, some (55, true), .bin .eql (.tmp 57) (.tmp 58) ⟩, ⟨ some 60, none, .pick (.tmp 55) (.tmp 59) (.const (.bool false)) ⟩, ⟨ some 6, none, .mv (.tmp 60) ⟩]) .ret)))))
theorem k3 : compF Try.prog Try.f3 = some (c3, [6]) := by kernel_rfl
theorem n3 : Try.f3.ntmps = 61 := by kernel_rfl
theorem wrong_ok (n : Int) (h : Heap) : ACalls Try.prog 98 [.int .i64 n] h fun v h' => v = .bool (decide (n < 1) || decide (7 < n)) ∧ h' = h := by
  refine acalls_of mix Try.func98 k98 n98 (by simp) fun hcl hb => ?_
  simp [c98]
  by_cases h1 : n < 1
  · simp [h1]
  · simp [h1]


/-- a number's bytes, the greatest first -/
def beB (size : Nat) (k : Int) : List Int := (List.range size).map fun i => IntKind.u8.wrap (k.fdiv (2 ^ (8 * (size - 1 - i))))
def fits (size : Nat) (k : Int) : Prop := 0 ≤ k ∧ k.fdiv (2 ^ (8 * size)) = 0
instance (size : Nat) (k : Int) : Decidable (fits size k) := inferInstanceAs (Decidable (_ ∧ _))
def cU8 (x : Int) : Value := .int .u8 x
def bytesOfInts (l : List Int) : ByteArray := ⟨(l.map fun n => UInt8.ofNat n.toNat).toArray⟩
theorem beB_len (size : Nat) (k : Int) : (beB size k).length = size := by simp [beB]
theorem beB_take (size j : Nat) (k : Int) (h : j < size) : (beB size k).take (j + 1) = (beB size k).take j ++ [IntKind.u8.wrap (k.fdiv (2 ^ (8 * (size - 1 - j))))] := by
  rw [List.take_succ_eq_append_getElem (by rw [beB_len]; exact h)]
  simp [beB]
theorem ints_below {n : Nat} {l : List Int} : ∀ x ∈ l.map cU8, VBelow n x := fun x hx => by obtain ⟨y, _, rfl⟩ := List.mem_map.1 hx; exact .int
theorem abytes_ints : ∀ l : List Int, abytes (l.map cU8) = some (l.map fun n => UInt8.ofNat n.toNat)
  | [] => rfl
  | x :: r => by
    show (abytes (r.map cU8)).map _ = _
    rw [abytes_ints r]
    rfl
/-- what num.Put answers -/
def putOut (size : Int) (l : List Int) : Value :=
  if size < 1 ∨ 7 < size then .tuple #[.string ⟨#[]⟩, .int .i64 1]
  else if ∀ k ∈ l, fits size.toNat k then .tuple #[.string (bytesOfInts (l.flatMap (beB size.toNat))), .int .i64 0]
  else .tuple #[.string ⟨#[]⟩, .int .i64 2]

theorem put_ok (size : Int) (l : List Int) (v : Value) (h : Heap) (hl : Sl (.int .i64) h v l) (hlen : l.length ≤ 68719476736) : ACalls Try.prog 24 [.int .i64 size, v] h fun r h' => r = putOut size l ∧ h' = h := by
  refine ACalls.drop (R := fun r h' => r = putOut size l ∧ h.Sub h.n h') ?_ fun v h' hh => ⟨h, hh.2, by rw [hh.1]; unfold putOut; split <;> (try split) <;> exact vb_tuple2 .string .int, hh.1, rfl⟩
  refine acalls_of mix Try.func24 k24 n24 (by simp) fun hcl hb => ?_
  simp [c24]
  refine (wrong_ok _ _).mono ?_
  rintro v1 h1 ⟨rfl, e⟩
  subst e
  by_cases w : size < 1 ∨ 7 < size
  · have w1 : (decide (size < 1) || decide (7 < size)) = true := by simpa using w
    simp [w1, putOut, w]
    exact Heap.Sub.refl hcl
  have w1 : (decide (size < 1) || decide (7 < size)) = false := by simpa using w
  simp [w1]
  obtain ⟨sz, rfl⟩ : ∃ sz : Nat, size = sz := ⟨size.toNat, by omega⟩
  have hs1 : 1 ≤ sz := by omega
  have hs7 : sz ≤ 7 := by omega
  have hfr : ∀ (h2 : Heap), h1.n ≤ h2.n → (∀ b, b < h1.n → h2.m b = h1.m b) → h1.Sub h1.n h2 := fun h2 hn hm => ⟨Nat.le_refl _, hn, fun b o e => by rw [hm b (hcl b o e).1]; exact e, hcl⟩
  rcases hl with ⟨c, rfl, rfl⟩ | ⟨b, o, cap, c, m, e, rfl, hc, hcap, hol, hget⟩
  · simp
    refine awp_loop_of (α := Unit) (fun _ => True) (fun _ => [(6, .slice none 0 0), (13, .int .i64 0), (14, .int .i64 0)]) (fun _ => h1) (fun _ => 0) () trivial (Heap.Sub.refl hcl) (by simp; exact ⟨VBelow.snil, VBelow.int⟩) fun _ _ => ?_
    simp [putOut, w]
    exact ⟨rfl, Heap.Sub.refl hcl⟩
  simp
  have hbn : b < h1.n := by
    unfold Heap.cellsOf at hc
    split at hc
    · rename_i hm; exact (hcl b _ hm).1
    · cases hc
  refine awp_loop_of (α := Nat × Value × Heap) (fun x => x.1 ≤ l.length ∧ (∀ k ∈ l.take x.1, fits sz k) ∧ Own h1 1 (x.1 * sz) (((l.take x.1).flatMap (beB sz)).map cU8) x.2.1 x.2.2)
    (fun x => [(0, .int .i64 sz), (6, x.2.1), (12, .slice (some ⟨b, o, none⟩) l.length cap), (13, .int .i64 l.length), (14, .int .i64 x.1)]) (fun x => x.2.2) (fun x => l.length - x.1) (0, .slice none 0 0, h1)
    ⟨Nat.zero_le _, by simp, by simpa using Own.start h1 1⟩ (Heap.Sub.refl hcl) (by simp; exact ⟨.int, .snil, .slice hbn, .int, .int⟩) ?_
  rintro ⟨i, vi, hi⟩ ⟨hil, hfit, hown⟩
  dsimp only at hil hfit hown
  have cap1 : (1 : Nat) ≤ 1 := Nat.le_refl _
  have hci : hi.cellsOf b = some (c, m, e) := by unfold Heap.cellsOf; rw [hown.old hbn]; exact hc
  by_cases hlt : i < l.length
  · have g0 := hget i hlt
    have w8 : IntKind.i64.wrap (8 * (sz : Int)) = 8 * sz := IntWalk.i64_in _ (by omega)
    have p8 : (0 : Int) ≤ 8 * sz := by omega
    have m8 : min ((8 * (sz : Int)).toNat) 64 = 8 * sz := by omega
    have hsub : h1.Sub h1.n hi := hfr hi hown.1 fun b' hb' => hown.old hb'
    have bad : ¬ fits sz l[i] → putOut sz l = .tuple #[.string ⟨#[]⟩, .int .i64 2] := fun nf => by
      unfold putOut
      rw [if_neg w, if_neg (fun hall => nf (by simpa using hall l[i] (List.getElem_mem hlt)))]
    by_cases hneg : l[i] < 0
    · simp [hlt, aidx_of hlt, hci, apart, g0, hneg]
      exact ⟨(bad fun q => absurd q.1 (by omega)).symm, hsub⟩
    have hpos : 0 ≤ l[i] := by omega
    by_cases hsm : l[i].fdiv (2 ^ (8 * sz)) = 0
    case neg =>
      simp [hlt, aidx_of hlt, hci, apart, g0, hneg, w8, p8, show IntKind.i64.bits = 64 from rfl, m8, hsm]
      exact ⟨(bad fun q => hsm q.2).symm, hsub⟩
    simp [hlt, aidx_of hlt, hci, apart, g0, hneg, w8, p8, show IntKind.i64.bits = 64 from rfl, m8, hsm]
    have hvl : VBelow hi.n vi := hown.below
    have hcli : hi.Closed := hown.closed hcl (fun x hx => by obtain ⟨y, _, rfl⟩ := List.mem_map.1 hx; exact .int)
    have hn1 := hown.1
    refine awp_loop_of (α := Nat × Value × Heap) (fun x => x.1 ≤ sz ∧ Own h1 1 (i * sz + x.1) (((l.take i).flatMap (beB sz) ++ (beB sz l[i]).take x.1).map cU8) x.2.1 x.2.2)
      (fun x => [(0, .int .i64 sz), (6, x.2.1), (8, .int .i64 l[i]), (12, .slice (some ⟨b, o, none⟩) l.length cap), (13, .int .i64 l.length), (14, .int .i64 i), (27, .int .i64 sz), (28, .int .i64 x.1)]) (fun x => x.2.2) (fun x => sz - x.1) (0, vi, hi)
      ⟨Nat.zero_le _, by simpa using hown⟩ ⟨hown.1, Nat.le_refl _, fun _ _ e => e, hcli⟩ (by simp; exact ⟨.int, hvl, .int, vb_slice (by omega), .int, .int, .int, .int⟩) ?_
    rintro ⟨j, vj, hj⟩ ⟨hjl, hownj⟩
    dsimp only at hjl hownj
    by_cases hjlt : j < sz
    · have q1 : IntKind.i64.wrap ((sz : Int) - 1) = sz - 1 := IntWalk.i64_in _ (by omega)
      have q2 : IntKind.i64.wrap ((sz : Int) - 1 - j) = sz - 1 - j := IntWalk.i64_in _ (by omega)
      have q3 : IntKind.i64.wrap (8 * ((sz : Int) - 1 - j)) = 8 * (sz - 1 - j) := IntWalk.i64_in _ (by omega)
      have q4 : (0 : Int) ≤ 8 * (sz - 1 - j) := by omega
      have q5 : min ((8 * ((sz : Int) - 1 - j)).toNat) 64 = 8 * (sz - 1 - j) := by omega
      have q6 : IntKind.i64.wrap ((j : Int) + 1) = ((j + 1 : Nat) : Int) := by rw [IntWalk.i64_in _ (by omega)]; omega
      obtain ⟨a, cc, rfl, v2, H2, H3, happ, hown3, hn3, hin3⟩ := hownj.app (H' := hj.push (.cells [cU8 (IntKind.u8.wrap (l[i].fdiv (2 ^ (8 * (sz - 1 - j)))))] .ex 1)) (t := 5) (bytes := 1) (k := 1) (new := [cU8 (IntKind.u8.wrap (l[i].fdiv (2 ^ (8 * (sz - 1 - j)))))]) hcl (by simp) (fun b hb => by rw [push_m, if_neg (by omega)]) (by omega) rfl (by
        have : i * sz ≤ l.length * 7 := Nat.mul_le_mul hil hs7
        omega)
      simp [hjlt, q1, q2, q3, q4, q5, show IntKind.i64.bits = 64 from rfl, afill, mcells, alen, afirst, Heap.cellsOf, push_m, acut, happ, cU8] at happ ⊢
      refine ⟨j + 1, by omega, v2, H3, ⟨by omega, ?_⟩, ⟨hown3.1, by omega, hin3, hown3.closed hcl ?_⟩, .int, ⟨rfl, hown3.below⟩, .int, vb_slice (by have := hown3.1; omega), .int, .int, .int, q6, .int⟩
      · rw [← List.map_take, beB_take sz j _ hjlt]
        simpa [cU8, Nat.add_assoc] using hown3
      · intro x hx
        rcases List.mem_append.1 hx with hx | hx
        · exact ints_below x hx
        · rw [List.mem_singleton.1 hx]; exact .int
    · have hj1 : j = sz := by omega
      subst hj1
      simp
      rw [show (beB j l[i]).take j = beB j l[i] from List.take_of_length_le (Nat.le_of_eq (beB_len _ _))] at hownj
      refine ⟨i + 1, by omega, vj, hj, ⟨by omega, ?_, ?_⟩, ⟨hownj.1, Nat.le_refl _, fun _ _ e => e, hownj.closed hcl ints_below⟩, .int, ⟨rfl, hownj.below⟩, vb_slice (by have := hownj.1; omega), .int, by rw [IntWalk.i64_in _ (by omega)]; omega, .int⟩
      · intro k hk
        rw [List.take_succ_eq_append_getElem hlt] at hk
        rcases List.mem_append.1 hk with hk | hk
        · exact hfit k hk
        · rw [List.mem_singleton.1 hk]; exact ⟨hpos, hsm⟩
      · rw [List.take_succ_eq_append_getElem hlt]
        simp only [List.flatMap_append, List.flatMap_cons, List.flatMap_nil, List.append_nil, Nat.add_mul, Nat.one_mul]
        exact hownj
  · have hi1 : i = l.length := by omega
    subst hi1
    simp
    rw [List.take_of_length_le (Nat.le_refl _)] at hown hfit
    have hsub : h1.Sub h1.n hi := hfr hi hown.1 fun b' hb' => hown.old hb'
    have hout : putOut sz l = .tuple #[.string (bytesOfInts (l.flatMap (beB sz))), .int .i64 0] := by
      unfold putOut
      rw [if_neg w, if_pos (by simpa using hfit)]
      rfl
    have hf := hown.first
    have hab := abytes_ints (l.flatMap (beB sz))
    obtain ⟨_, ⟨rfl, hcells, hlen0, hH⟩ | ⟨nm, md, e', hn1, hn2, rfl, hcl2, _, hH⟩⟩ := hown
    · simp
      have : bytesOfInts (l.flatMap (beB sz)) = ⟨#[]⟩ := by
        rw [List.map_eq_nil_iff] at hcells
        rw [hcells]
        rfl
      rw [hout, this]
      exact ⟨rfl, hsub⟩
    · simp [hf, hab]
      rw [hout]
      exact ⟨rfl, hsub⟩

/-! bytes and order -/
def bN : Nat → Nat → List UInt8
  | 0, _ => []
  | n + 1, x => UInt8.ofNat (x / 256 ^ n % 256) :: bN n x
theorem bN_len : ∀ n x, (bN n x).length = n
  | 0, _ => rfl
  | n + 1, x => by simp [bN, bN_len n x]
theorem mod_step (n x : Nat) : x % 256 ^ (n + 1) = 256 ^ n * (x / 256 ^ n % 256) + x % 256 ^ n := by
  rw [Nat.pow_succ, Nat.mod_mul]
  omega
theorem u8_lt (a b : Nat) (ha : a < 256) (hb : b < 256) : decide (UInt8.ofNat a < UInt8.ofNat b) = decide (a < b) := by
  rw [decide_eq_decide, UInt8.lt_iff_toNat_lt, UInt8.toNat_ofNat', UInt8.toNat_ofNat', Nat.mod_eq_of_lt ha, Nat.mod_eq_of_lt hb]
theorem u8_eq (a b : Nat) (ha : a < 256) (hb : b < 256) : UInt8.ofNat a = UInt8.ofNat b ↔ a = b := by
  rw [← UInt8.toNat_inj, UInt8.toNat_ofNat', UInt8.toNat_ofNat', Nat.mod_eq_of_lt ha, Nat.mod_eq_of_lt hb]
theorem split_lt (p q r s t : Nat) (h1 : r < p) (h2 : t < p) : (p * q + r < p * s + t) ↔ q < s ∨ (q = s ∧ r < t) := by
  rcases Nat.lt_trichotomy q s with h | h | h
  · have : p * (q + 1) ≤ p * s := Nat.mul_le_mul_left _ h
    rw [Nat.mul_succ] at this
    constructor <;> intro <;> omega
  · subst h; constructor <;> intro <;> omega
  · have : p * (s + 1) ≤ p * q := Nat.mul_le_mul_left _ h
    rw [Nat.mul_succ] at this
    constructor <;> intro <;> omega
theorem split_eq (p q r s t : Nat) (h1 : r < p) (h2 : t < p) : (p * q + r = p * s + t) ↔ q = s ∧ r = t := by
  rcases Nat.lt_trichotomy q s with h | h | h
  · have : p * (q + 1) ≤ p * s := Nat.mul_le_mul_left _ h
    rw [Nat.mul_succ] at this
    constructor <;> intro <;> omega
  · subst h; constructor <;> intro <;> omega
  · have : p * (s + 1) ≤ p * q := Nat.mul_le_mul_left _ h
    rw [Nat.mul_succ] at this
    constructor <;> intro <;> omega
theorem bN_less : ∀ n x y, Op.bytesLess (bN n x) (bN n y) = decide (x % 256 ^ n < y % 256 ^ n)
  | 0, x, y => by simp [bN, Op.bytesLess, Nat.mod_one]
  | n + 1, x, y => by
    have hp : 0 < 256 ^ n := Nat.pow_pos (by omega)
    have ha : x / 256 ^ n % 256 < 256 := Nat.mod_lt _ (by omega)
    have hb : y / 256 ^ n % 256 < 256 := Nat.mod_lt _ (by omega)
    show (decide (UInt8.ofNat (x / 256 ^ n % 256) < UInt8.ofNat (y / 256 ^ n % 256)) || (UInt8.ofNat (x / 256 ^ n % 256) == UInt8.ofNat (y / 256 ^ n % 256) && Op.bytesLess (bN n x) (bN n y))) = _
    rw [u8_lt _ _ ha hb, bN_less n x y, mod_step, mod_step, Bool.eq_iff_iff]
    simp only [Bool.or_eq_true, Bool.and_eq_true, beq_iff_eq, decide_eq_true_eq, u8_eq _ _ ha hb]
    exact (split_lt _ _ _ _ _ (Nat.mod_lt _ hp) (Nat.mod_lt _ hp)).symm
theorem bN_eq : ∀ n x y, bN n x = bN n y ↔ x % 256 ^ n = y % 256 ^ n
  | 0, x, y => by simp [bN, Nat.mod_one]
  | n + 1, x, y => by
    have hp : 0 < 256 ^ n := Nat.pow_pos (by omega)
    have ha : x / 256 ^ n % 256 < 256 := Nat.mod_lt _ (by omega)
    have hb : y / 256 ^ n % 256 < 256 := Nat.mod_lt _ (by omega)
    rw [mod_step, mod_step, split_eq _ _ _ _ _ (Nat.mod_lt _ hp) (Nat.mod_lt _ hp), bN, bN, List.cons.injEq, bN_eq n x y, u8_eq _ _ ha hb]
theorem u8_wrap (n : Int) : IntKind.u8.wrap n = n % 256 := by
  unfold IntKind.wrap
  simp [show IntKind.u8.bits = 8 from rfl, show IntKind.u8.signed = false from rfl]
theorem beB_bN (x : Nat) : ∀ n, ((beB n x).map fun k => UInt8.ofNat k.toNat) = bN n x
  | 0 => rfl
  | n + 1 => by
    rw [bN, ← beB_bN x n]
    simp only [beB, List.range_succ_eq_map, List.map_cons, List.map_map]
    congr 1
    · rw [u8_wrap, Nat.add_sub_cancel, Nat.sub_zero, Int.fdiv_eq_ediv_of_nonneg _ (Int.pow_nonneg (by omega)), show ((2 : Int) ^ (8 * n)) = ((256 ^ n : Nat) : Int) by rw [Int.natCast_pow, Int.pow_mul]; rfl]
      congr 1
    · apply List.map_congr_left
      intro i _
      simp only [Function.comp, Nat.succ_eq_add_one]
      rw [show n + 1 - 1 - (i + 1) = n - 1 - i by omega]

theorem str_be (n x : Nat) : bytesOfInts (([(x : Int)]).flatMap (beB n)) = ⟨(bN n x).toArray⟩ := by
  unfold bytesOfInts
  rw [List.flatMap_cons, List.flatMap_nil, List.append_nil, beB_bN]
theorem toList_mk (l : List UInt8) : (ByteArray.mk l.toArray).toList = l := by
  rw [ByteArray.toList_eq]
theorem fits_lt {n x : Nat} : fits n (x : Int) ↔ x < 256 ^ n := by
  unfold fits
  rw [Int.fdiv_eq_ediv_of_nonneg _ (Int.pow_nonneg (by omega)), show ((2 : Int) ^ (8 * n)) = ((256 ^ n : Nat) : Int) by rw [Int.natCast_pow, Int.pow_mul]; rfl]
  have hp : 0 < 256 ^ n := Nat.pow_pos (by omega)
  rw [← Int.natCast_ediv]
  constructor
  · intro h
    have : x / 256 ^ n = 0 := by omega
    rwa [Nat.div_eq_zero_iff_lt hp] at this
  · intro h
    rw [Nat.div_eq_of_lt h]
    exact ⟨by omega, rfl⟩

theorem sl_one {n : Int} {h : Heap} {b : Nat} (hc : h.cellsOf b = some ([.int .i64 n], .ex, 1)) : Sl (.int .i64) h (.slice (some ⟨b, 0, none⟩) 1 1) [n] :=
  .inr ⟨b, 0, 1, _, _, _, rfl, hc, Nat.le_refl _, fun _ => Nat.le_refl _, fun i hi => by
    have : i = 0 := by simp at hi; omega
    subst this; rfl⟩
theorem awake_ok (h : Heap) : ACalls Try.prog 23 [] h fun v h' => v = .bool true ∧ h' = h := by
  refine ACalls.drop (R := fun v h' => v = .bool true ∧ h.Sub h.n h') ?_ fun v h' hh => ⟨h, hh.2, by rw [hh.1]; exact .bool, hh.1, rfl⟩
  refine acalls_of mix Try.func23 k23 n23 (by simp) fun hcl hb => ?_
  simp [c23, afill, mcells]
  refine (put_ok 2 [1, 256] _ _ (.inr ⟨h.n, 0, 2, _, _, _, rfl, by simp [Heap.cellsOf, push_m]; exact ⟨rfl, rfl, rfl⟩, Nat.le_refl _, by simp, fun i hi => ?_⟩) (by simp)).mono ?_
  · match i, hi with
    | 0, _ => rfl
    | 1, _ => rfl
  rintro v1 h1 ⟨rfl, e⟩
  subst e
  have hp : putOut 2 [1, 256] = .tuple #[.string ⟨#[0, 1, 1, 0]⟩, .int .i64 0] := by
    unfold putOut
    rw [if_neg (by omega), if_pos (by decide)]
    congr 1
  rw [hp]
  simp
  exact ⟨Nat.le_refl _, Nat.le_succ _, fun b o e => by rw [push_m, if_neg (by have := (hcl b o e).1; omega)]; exact e, hcl⟩

theorem putOut_zero {size a : Int} {s : ByteArray} (h : putOut size [a] = .tuple #[.string s, .int .i64 0]) : (1 ≤ size ∧ size ≤ 7) ∧ fits size.toNat a ∧ s = bytesOfInts ([a].flatMap (beB size.toNat)) := by
  unfold putOut at h
  split at h
  · simp at h
  · split at h
    · rename_i h1 h2
      simp only [Value.tuple.injEq, Array.mk.injEq, List.cons.injEq, Value.string.injEq] at h
      exact ⟨by omega, h2 a (by simp), h.1.symm⟩
    · simp at h
theorem order_ok (size a b : Int) (h : Heap) : ACalls Try.prog 3 [.int .i64 size, .int .i64 a, .int .i64 b] h fun v h' => v = .bool true ∧ h' = h := by
  refine ACalls.drop (R := fun v h' => v = .bool true ∧ h.Sub h.n h') ?_ fun v h' hh => ⟨h, hh.2, by rw [hh.1]; exact .bool, hh.1, rfl⟩
  refine acalls_of mix Try.func3 k3 n3 (by simp) fun hcl hb => ?_
  simp [c3]
  refine (awake_ok _).mono ?_
  rintro v1 h1 ⟨rfl, e⟩
  subst e
  simp [aun, afill, mcells]
  refine (put_ok size [a] _ _ (sl_one (by simp [Heap.cellsOf, push_m])) (by simp)).mono ?_
  rintro v2 h2 ⟨rfl, e⟩
  subst e
  obtain ⟨s, k, hs⟩ : ∃ s k, putOut size [a] = .tuple #[.string s, .int .i64 k] := by
    unfold putOut; split
    · exact ⟨_, _, rfl⟩
    · split <;> exact ⟨_, _, rfl⟩
  obtain ⟨t, j, ht⟩ : ∃ s k, putOut size [b] = .tuple #[.string s, .int .i64 k] := by
    unfold putOut; split
    · exact ⟨_, _, rfl⟩
    · split <;> exact ⟨_, _, rfl⟩
  rw [hs]
  simp [aun, afill, mcells]
  refine (put_ok size [b] _ _ (sl_one (by simp [Heap.cellsOf, push_m])) (by simp)).mono ?_
  rintro v2 h2 ⟨rfl, e⟩
  subst e
  rw [ht]
  have hsub : h1.Sub h1.n ((h1.push (.cells [.int .i64 a] .ex 1)).push (.cells [.int .i64 b] .ex 1)) := ⟨Nat.le_refl _, by show h1.n ≤ h1.n + 1 + 1; omega, fun b o e => by
    have := (hcl b o e).1
    rw [push_m, if_neg (by show ¬ b = h1.n + 1; omega), push_m, if_neg (by omega)]; exact e, hcl⟩
  by_cases hk : k = 0
  · subst hk
    by_cases hj : j = 0
    · subst hj
      obtain ⟨h1s, h1f, rfl⟩ := putOut_zero hs
      obtain ⟨h2s, h2f, rfl⟩ := putOut_zero ht
      obtain ⟨n, rfl⟩ : ∃ n : Nat, size = n := ⟨size.toNat, by omega⟩
      simp only [Int.toNat_natCast] at h1f h2f hs ht
      obtain ⟨x, rfl⟩ : ∃ x : Nat, a = x := ⟨a.toNat, by have := h1f.1; omega⟩
      obtain ⟨y, rfl⟩ : ∃ x : Nat, b = x := ⟨b.toNat, by have := h2f.1; omega⟩
      rw [fits_lt] at h1f h2f
      simp only [Int.toNat_natCast, str_be] at hs ht ⊢
      have f1 : strLess ⟨(bN n x).toArray⟩ ⟨(bN n y).toArray⟩ = decide (x < y) := by
        unfold strLess
        rw [toList_mk, toList_mk, bN_less, Nat.mod_eq_of_lt h1f, Nat.mod_eq_of_lt h2f]
      have f2 : ((⟨(bN n x).toArray⟩ : ByteArray) = ⟨(bN n y).toArray⟩) = (x = y) := by
        apply propext
        have e := bN_eq n x y
        rw [Nat.mod_eq_of_lt h1f, Nat.mod_eq_of_lt h2f] at e
        rw [ByteArray.mk.injEq]
        exact ⟨fun q => e.1 (List.toArray_inj q), fun q => by rw [e.2 q]⟩
      have f3 : (⟨(bN n x).toArray⟩ : ByteArray).size = n := by show (bN n x).toArray.size = n; rw [List.size_toArray, bN_len]
      have f4 : (⟨(bN n y).toArray⟩ : ByteArray).size = n := by show (bN n y).toArray.size = n; rw [List.size_toArray, bN_len]
      have f2' : decide ((⟨(bN n x).toArray⟩ : ByteArray) = ⟨(bN n y).toArray⟩) = decide (x = y) := decide_eq_decide.2 (iff_of_eq f2)
      revert f1 f2' f3 f4
      clear f2 hs ht
      generalize (⟨(bN n x).toArray⟩ : ByteArray) = s
      generalize (⟨(bN n y).toArray⟩ : ByteArray) = t
      intro f1 f3 f4 f2'
      by_cases hxy : x = y
      · subst hxy
        simp only [decide_true] at f2'
        simp [aeq, f1, f2', f3, f4]
        exact hsub
      · have hi : ¬ (x : Int) = y := by omega
        simp only [hxy, decide_false] at f2'
        simp [aeq, f1, f2', f3, f4, hi]
        exact hsub
    · simp [hj]
      exact hsub
  · simp [hk]
    exact hsub
def c29 : AC := .seq (.ops [⟨ some 4, none, .mv (.const (.string ⟨ ⟨[] ⟩ ⟩)) ⟩, ⟨ some 5, none, .mv (.const (.int .i64 0)) ⟩]) (.seq (.seq (.ops [⟨ some 11, none, .mv (.tmp 0) ⟩, ⟨ some 12, none, .bin .lss (.tmp 11) (.const (.int .i64 1)) ⟩, ⟨ some 13, none, .mv (.tmp 12) ⟩, ⟨ some 14, some (13, false), .mv (.tmp 0) ⟩, ⟨ some 15, some (13, false), .bin .gtr (.tmp 14) (.const (.int .i64 7)) ⟩, ⟨ some 16, none, .pick (.tmp 13) (.const (.bool true)) (.tmp 15) ⟩]) (.cond (.tmp 16) (.seq (.ops [⟨ some 4, none, .mv (.const (.string ⟨ ⟨[] ⟩ ⟩)) ⟩, ⟨ some 5, none, .mv (.const (.int .i64 1)) ⟩]) .ret) .skip)) (.seq (.ops [⟨ some 6, none, .mv (.const (.string ⟨ ⟨[] ⟩ ⟩)) ⟩]) (.seq (.seq (.ops [⟨ some 7, none, .mv (.const (.int .i64 0)) ⟩]) (.block 0 (.loop (.seq (.seq (.ops [⟨ some 17, none, .mv (.tmp 7) ⟩, ⟨ some 18, none, .mv (.tmp 1) ⟩, ⟨ some 19, none, .lenS false (.tmp 18) ⟩, ⟨ some 20, none, .bin .lss (.tmp 17) (.tmp 19) ⟩]) (.cond (.tmp 20) .skip (.exit 0))) (.seq (.block 1 (.seq (.ops [⟨ some 23, none, .mv (.tmp 1) ⟩, ⟨ some 24, none, .mv (.tmp 7) ⟩, ⟨ some 25, none, .iAddrS 1 (.tmp 23) (.tmp 24) ⟩, ⟨ some 26, none, .load none (.tmp 25) ⟩, ⟨ some 8, none, .mv (.tmp 26) ⟩]) (.seq (.ops [⟨ some 9, none, .mv (.const (.string ⟨ ⟨[] ⟩ ⟩)) ⟩]) (.seq (.seq (.ops [⟨ some 10, none, .mv (.const (.int .i64 0)) ⟩]) (.block 2 (.loop (.seq (.seq (.ops [⟨ some 27, none, .mv (.tmp 10) ⟩, ⟨ some 28, none, .mv (.tmp 0) ⟩, ⟨ some 29, none, .bin .lss (.tmp 27) (.tmp 28) ⟩, ⟨ some 30, none, .mv (.tmp 29) ⟩, ⟨ some 31, some (30, true), .mv (.tmp 8) ⟩, ⟨ some 32, some (30, true), .bin .geq (.tmp 31) (.const (.int .i64 0)) ⟩, ⟨ some 33, none, .pick (.tmp 30) (.tmp 32) (.const (.bool false)) ⟩]) (.cond (.tmp 33) .skip (.exit 2))) (.seq (.block 3 (.seq (.ops [⟨ some 36, none, .mv (.tmp 8) ⟩, ⟨ some 37, none, .bin .rem (.tmp 36) (.const (.int .i64 256)) ⟩, ⟨ some 38, none, .toInt .u8 (.tmp 37) ⟩, ⟨ some 39, none, .buildS 1 [.int .u8 0] [(0, 1, .tmp 38)] ⟩, ⟨ some 40, none, .toStr (.tmp 39) ⟩, ⟨ some 41, none, .mv (.tmp 9) ⟩, ⟨ some 42, none, .bin .add (.tmp 40) (.tmp 41) ⟩, ⟨ some 9, none, .mv (.tmp 42) ⟩]) (.ops [⟨ some 43, none, .mv (.tmp 8) ⟩, ⟨ some 44, none, .bin .quo (.tmp 43) (.const (.int .i64 256)) ⟩, ⟨ some 8, none, .mv (.tmp 44) ⟩]))) (.ops [⟨ some 34, none, .mv (.tmp 10) ⟩, ⟨ some 35, none, .bin .add (.tmp 34) (.const (.int .i64 1)) ⟩, ⟨ some 10, none, .mv (.tmp 35) ⟩])))))) (.seq (.seq (.ops [⟨ some 45, none, .mv (.tmp 8) ⟩, ⟨ some 46, none, .bin .neq (.tmp 45) (.const (.int .i64 0)) ⟩]) (.cond (.tmp 46) (.seq (.ops [⟨ some 4, none, .mv (.const (.string ⟨ ⟨[] ⟩ ⟩)) ⟩, ⟨ some 5, none, .mv (.const (.int .i64 2)) ⟩]) .ret) .skip)) (.ops [⟨ some 47, none, .mv (.tmp 6) ⟩, ⟨ some 48, none, .mv (.tmp 9) ⟩, ⟨ some 49, none, .bin .add (.tmp 47) (.tmp 48) ⟩, ⟨ some 6, none, .mv (.tmp 49) ⟩])))))) (.ops [⟨ some 21, none, .mv (.tmp 7) ⟩, ⟨ some 22, none, .bin .add (.tmp 21) (.const (.int .i64 1)) ⟩, ⟨ some 7, none, .mv (.tmp 22) ⟩])))))) (.seq (.ops [⟨ some 50, none, .mv (.tmp 6) ⟩, ⟨ some 4, none, .mv (.tmp 50) ⟩, ⟨ some 5, none, .mv (.const (.int .i64 0)) ⟩]) .ret))))
theorem k29 : compF Try.prog Try.f29 = some (c29, [4, 5]) := by kernel_rfl
theorem n29 : Try.f29.ntmps = 51 := by kernel_rfl
def c31 : AC := .seq (.ops [⟨ some 4, none, .mv (.const (.bool false)) ⟩]) (.seq (.seq (.ops [⟨ some 6, none, .mv (.tmp 0) ⟩, ⟨ some 7, none, .lenS false (.tmp 6) ⟩, ⟨ some 8, none, .mv (.tmp 1) ⟩, ⟨ some 9, none, .lenS false (.tmp 8) ⟩, ⟨ some 10, none, .bin .neq (.tmp 7) (.tmp 9) ⟩]) (.cond (.tmp 10) (.seq (.ops [⟨ some 4, none, .mv (.const (.bool false)) ⟩]) .ret) .skip)) (.seq (.seq (.ops [⟨ some 5, none, .mv (.const (.int .i64 0)) ⟩]) (.block 0 (.loop (.seq (.seq (.ops [⟨ some 11, none, .mv (.tmp 5) ⟩, ⟨ some 12, none, .mv (.tmp 0) ⟩, ⟨ some 13, none, .lenS false (.tmp 12) ⟩, ⟨ some 14, none, .bin .lss (.tmp 11) (.tmp 13) ⟩]) (.cond (.tmp 14) .skip (.exit 0))) (.seq (.block 1 (.seq (.draw [([⟨ some 17, none, .mv (.tmp 0) ⟩, ⟨ some 18, none, .mv (.tmp 5) ⟩, ⟨ some 19, none, .iAddrS 1 (.tmp 17) (.tmp 18) ⟩, ⟨ some 20, none, .load none (.tmp 19) ⟩, ⟨ some 21, none, .mv (.tmp 1) ⟩, ⟨ some 22, none, .mv (.tmp 5) ⟩, ⟨ some 23, none, .iAddrS 1 (.tmp 21) (.tmp 22) ⟩, ⟨ some 24, none, .load none (.tmp 23) ⟩, ⟨ some 25, none, .bin .neq (.tmp 20) (.tmp 24) ⟩], [], [])]) (.cond (.tmp 25) (.seq (.ops [⟨ some 4, none, .mv (.const (.bool false)) ⟩]) .ret) .skip))) (.ops [⟨ some 15, none, .mv (.tmp 5) ⟩, ⟨ some 16, none, .bin .add (.tmp 15) (.const (.int .i64 1)) ⟩, ⟨ some 5, none, .mv (.tmp 16) ⟩])))))) (.seq (.ops [⟨ some 4, none, .mv (.const (.bool true)) ⟩]) .ret)))
theorem k31 : compF Try.prog Try.f31 = some (c31, [4]) := by kernel_rfl
theorem n31 : Try.f31.ntmps = 26 := by kernel_rfl
def c101 : AC := .seq (.ops [⟨ some 4, none, .mv (.const (.bool false)) ⟩]) (.seq (.ops [⟨ some 5, none, .mv (.tmp 0) ⟩, ⟨ some 6, none, .mv (.tmp 1) ⟩, ⟨ some 7, none, .call 126 [.tmp 5, .tmp 6] ⟩, ⟨ some 8, none, .bin .geq (.tmp 7) (.const (.int .i64 0)) ⟩, ⟨ some 4, none, .mv (.tmp 8) ⟩]) .ret)
theorem k101 : compF Try.prog Try.f101 = some (c101, [4]) := by kernel_rfl
theorem n101 : Try.f101.ntmps = 9 := by kernel_rfl
def c126 : AC := .seq (.ops [⟨ some 4, none, .mv (.const (.int .i64 0)) ⟩]) (.seq (.seq (.ops [⟨ some 6, none, .mv (.tmp 0) ⟩, ⟨ some 7, none, .lenS false (.tmp 6) ⟩, ⟨ some 8, none, .mv (.const (.int .i64 0)) ⟩]) (.block 0 (.loop (.seq (.ops [⟨ some 9, none, .bin .lss (.tmp 8) (.tmp 7) ⟩]) (.seq (.cond (.tmp 9) .skip (.exit 0)) (.seq (.block 1 (.seq (.ops [⟨ some 10, none, .mv (.tmp 8) ⟩, ⟨ some 5, none, .mv (.tmp 10) ⟩]) (.seq (.ops [⟨ some 11, none, .mv (.tmp 1) ⟩, ⟨ some 12, none, .mv (.tmp 0) ⟩, ⟨ some 13, none, .mv (.tmp 5) ⟩, ⟨ some 14, none, .iAddrS 1 (.tmp 12) (.tmp 13) ⟩, ⟨ some 15, none, .load none (.tmp 14) ⟩, ⟨ some 16, none, .callv (.tmp 11) [.tmp 15] ⟩]) (.cond (.tmp 16) (.seq (.ops [⟨ some 17, none, .mv (.tmp 5) ⟩, ⟨ some 4, none, .mv (.tmp 17) ⟩]) .ret) .skip)))) (.ops [⟨ some 18, none, .bin .add (.tmp 8) (.const (.int .i64 1)) ⟩, ⟨ some 8, none, .mv (.tmp 18) ⟩]))))))) (.seq (.ops [⟨ some 4, none, .mv (.const (.int .i64 (-1))) ⟩]) .ret))
theorem k126 : compF Try.prog Try.f126 = some (c126, [4]) := by kernel_rfl
theorem n126 : Try.f126.ntmps = 19 := by kernel_rfl
def c32 : AC := .seq (.ops [⟨ some 2, none, .mv (.const (.int .i64 0)) ⟩]) (.seq (.seq (.ops [⟨ some 6, none, .mv (.tmp 0) ⟩, ⟨ some 7, none, .call 101 [.tmp 6, .func 98] ⟩]) (.cond (.tmp 7) (.seq (.ops [⟨ some 2, none, .mv (.const (.int .i64 0)) ⟩]) .ret) .skip)) (.seq (.ops [⟨ some 3, none, .mv (.const (.int .i64 0)) ⟩]) (.seq (.seq (.ops [⟨ some 8, none, .mv (.tmp 0) ⟩, ⟨ some 9, none, .lenS false (.tmp 8) ⟩, ⟨ some 10, none, .mv (.const (.int .i64 0)) ⟩]) (.block 0 (.loop (.seq (.ops [⟨ some 11, none, .bin .lss (.tmp 10) (.tmp 9) ⟩]) (.seq (.cond (.tmp 11) .skip (.exit 0)) (.seq (.block 1 (.seq (.ops [⟨ some 12, none, .iAddrS 1 (.tmp 8) (.tmp 10) ⟩, ⟨ some 13, none, .load none (.tmp 12) ⟩, ⟨ some 5, none, .mv (.tmp 13) ⟩]) (.ops [⟨ some 14, none, .mv (.tmp 3) ⟩, ⟨ some 15, none, .mv (.tmp 5) ⟩, ⟨ some 16, none, .bin .add (.tmp 14) (.tmp 15) ⟩, ⟨ some 3, none, .mv (.tmp 16) ⟩]))) (.ops [⟨ some 17, none, .bin .add (.tmp 10) (.const (.int .i64 1)) ⟩, ⟨ some 10, none, .mv (.tmp 17) ⟩]))))))) (.seq (.ops [⟨ some 18, none, .mv (.tmp 3) ⟩, ⟨ some 2, none, .mv (.tmp 18) ⟩]) .ret))))
theorem k32 : compF Try.prog Try.f32 = some (c32, [2]) := by kernel_rfl
theorem n32 : Try.f32.ntmps = 19 := by kernel_rfl
def c30 : AC := .seq (.ops [⟨ some 4, none, .mv (.const (.slice none 0 0)) ⟩, ⟨ some 5, none, .mv (.const (.int .i64 0)) ⟩]) (.seq (.block 0 (.seq (.ops [⟨ some 13, none, .mv (.tmp 1) ⟩, ⟨ some 14, none, .call 101 [.tmp 13, .func 98] ⟩, ⟨ some 12, none, .mv (.tmp 14) ⟩]) (.cond (.tmp 12) (.seq (.ops [⟨ some 4, none, .mv (.const (.slice none 0 0)) ⟩, ⟨ some 5, none, .mv (.const (.int .i64 1)) ⟩]) .ret) (.seq (.ops [⟨ some 16, none, .mv (.tmp 0) ⟩, ⟨ some 17, none, .lenS true (.tmp 16) ⟩, ⟨ some 18, none, .mv (.tmp 1) ⟩, ⟨ some 19, none, .call 32 [.tmp 18] ⟩, ⟨ some 20, none, .bin .lss (.tmp 17) (.tmp 19) ⟩, ⟨ some 15, none, .mv (.tmp 20) ⟩]) (.cond (.tmp 15) (.seq (.ops [⟨ some 4, none, .mv (.const (.slice none 0 0)) ⟩, ⟨ some 5, none, .mv (.const (.int .i64 13)) ⟩]) .ret) .skip))))) (.seq (.ops [⟨ some 6, none, .mv (.const (.slice none 0 0)) ⟩]) (.seq (.seq (.ops [⟨ some 21, none, .mv (.tmp 1) ⟩, ⟨ some 22, none, .lenS false (.tmp 21) ⟩, ⟨ some 23, none, .mv (.const (.int .i64 0)) ⟩]) (.block 1 (.loop (.seq (.ops [⟨ some 24, none, .bin .lss (.tmp 23) (.tmp 22) ⟩]) (.seq (.cond (.tmp 24) .skip (.exit 1)) (.seq (.block 2 (.seq (.ops [⟨ some 25, none, .iAddrS 1 (.tmp 21) (.tmp 23) ⟩, ⟨ some 26, none, .load none (.tmp 25) ⟩, ⟨ some 8, none, .mv (.tmp 26) ⟩]) (.seq (.ops [⟨ some 9, none, .mv (.const (.int .i64 0)) ⟩]) (.seq (.seq (.ops [⟨ some 27, none, .mv (.tmp 0) ⟩, ⟨ some 28, none, .mv (.tmp 8) ⟩, ⟨ some 29, none, .slS (.tmp 27) none (some (.tmp 28)) ⟩, ⟨ some 30, none, .toBytes 5 (.tmp 29) ⟩, ⟨ some 31, none, .lenS false (.tmp 30) ⟩, ⟨ some 32, none, .mv (.const (.int .i64 0)) ⟩]) (.block 3 (.loop (.seq (.ops [⟨ some 33, none, .bin .lss (.tmp 32) (.tmp 31) ⟩]) (.seq (.cond (.tmp 33) .skip (.exit 3)) (.seq (.block 4 (.seq (.ops [⟨ some 34, none, .iAddrS 1 (.tmp 30) (.tmp 32) ⟩, ⟨ some 35, none, .load none (.tmp 34) ⟩, ⟨ some 11, none, .mv (.tmp 35) ⟩]) (.ops [⟨ some 36, none, .mv (.tmp 9) ⟩, ⟨ some 37, none, .bin .shl (.tmp 36) (.const (.int .u64 8)) ⟩, ⟨ some 38, none, .mv (.tmp 11) ⟩, ⟨ some 39, none, .toInt .i64 (.tmp 38) ⟩, ⟨ some 40, none, .bin .or (.tmp 37) (.tmp 39) ⟩, ⟨ some 9, none, .mv (.tmp 40) ⟩]))) (.ops [⟨ some 41, none, .bin .add (.tmp 32) (.const (.int .i64 1)) ⟩, ⟨ some 32, none, .mv (.tmp 41) ⟩]))))))) (.draw [([⟨ some 42, none, .mv (.tmp 6) ⟩, ⟨ some 43, none, .mv (.tmp 9) ⟩, ⟨ some 46, none, .mv (.tmp 0) ⟩, ⟨ some 47, none, .mv (.tmp 8) ⟩, ⟨ some 48, none, .slS (.tmp 46) (some (.tmp 47)) none ⟩], [⟨ some 44, none, .buildS 1 [.int .i64 0] [(0, 1, .tmp 43)] ⟩], []), ([], [⟨ some 45, none, .app 1 8 3 (.tmp 42) (.tmp 44) ⟩], []), ([], [⟨ some 6, none, .mv (.tmp 45) ⟩], []), ([], [⟨ some 0, none, .mv (.tmp 48) ⟩], []), ([], [], [])]))))) (.ops [⟨ some 49, none, .bin .add (.tmp 23) (.const (.int .i64 1)) ⟩, ⟨ some 23, none, .mv (.tmp 49) ⟩]))))))) (.seq (.ops [⟨ some 50, none, .mv (.tmp 6) ⟩, ⟨ some 4, none, .mv (.tmp 50) ⟩, ⟨ some 5, none, .mv (.const (.int .i64 0)) ⟩]) .ret))))
theorem k30 : compF Try.prog Try.f30 = some (c30, [4, 5]) := by kernel_rfl
theorem n30 : Try.f30.ntmps = 51 := by kernel_rfl
def c33 : AC := .seq (.ops [⟨ some 4, none, .mv (.const (.slice none 0 0)) ⟩, ⟨ some 5, none, .mv (.const (.int .i64 0)) ⟩]) (.seq (.ops [⟨ some 6, none, .mv (.const (.int .i64 0)) ⟩]) (.seq (.seq (.ops [⟨ some 7, none, .mv (.const (.int .i64 0)) ⟩]) (.block 0 (.loop (.seq (.seq (.ops [⟨ some 13, none, .mv (.tmp 7) ⟩, ⟨ some 14, none, .mv (.tmp 1) ⟩, ⟨ some 15, none, .lenS false (.tmp 14) ⟩, ⟨ some 16, none, .bin .lss (.tmp 13) (.tmp 15) ⟩]) (.cond (.tmp 16) .skip (.exit 0))) (.seq (.block 1 (.seq (.seq (.ops [⟨ some 19, none, .mv (.tmp 1) ⟩, ⟨ some 20, none, .mv (.tmp 7) ⟩, ⟨ some 21, none, .iAddrS 1 (.tmp 19) (.tmp 20) ⟩, ⟨ some 22, none, .load none (.tmp 21) ⟩, ⟨ some 23, none, .bin .lss (.tmp 22) (.const (.int .i64 1)) ⟩, ⟨ some 24, none, .mv (.tmp 23) ⟩, ⟨ some 25, some (24, false), .mv (.tmp 1) ⟩, ⟨ some 26, some (24, false), .mv (.tmp 7) ⟩, ⟨ some 27, some (24, false), .iAddrS 1 (.tmp 25) (.tmp 26) ⟩, ⟨ some 28, some (24, false), .load none (.tmp 27) ⟩, ⟨ some 29, some (24, false), .bin .gtr (.tmp 28) (.const (.int .i64 7)) ⟩, ⟨ some 30, none, .pick (.tmp 24) (.const (.bool true)) (.tmp 29) ⟩]) (.cond (.tmp 30) (.seq (.ops [⟨ some 4, none, .mv (.const (.slice none 0 0)) ⟩, ⟨ some 5, none, .mv (.const (.int .i64 1)) ⟩]) .ret) .skip)) (.ops [⟨ some 31, none, .mv (.tmp 6) ⟩, ⟨ some 32, none, .mv (.tmp 1) ⟩, ⟨ some 33, none, .mv (.tmp 7) ⟩, ⟨ some 34, none, .iAddrS 1 (.tmp 32) (.tmp 33) ⟩, ⟨ some 35, none, .load none (.tmp 34) ⟩, ⟨ some 36, none, .bin .add (.tmp 31) (.tmp 35) ⟩, ⟨ some 6, none, .mv (.tmp 36) ⟩]))) (.ops [⟨ some 17, none, .mv (.tmp 7) ⟩, ⟨ some 18, none, .bin .add (.tmp 17) (.const (.int .i64 1)) ⟩, ⟨ some 7, none, .mv (.tmp 18) ⟩])))))) (.seq (.seq (.ops [⟨ some 37, none, .mv (.tmp 0) ⟩, ⟨ some 38, none, .lenS true (.tmp 37) ⟩, ⟨ some 39, none, .mv (.tmp 6) ⟩, ⟨ some 40, none, .bin .lss (.tmp 38) (.tmp 39) ⟩]) (.cond (.tmp 40) (.seq (.ops [⟨ some 4, none, .mv (.const (.slice none 0 0)) ⟩, ⟨ some 5, none, .mv (.const (.int .i64 13)) ⟩]) .ret) .skip)) (.seq (.ops [⟨ some 41, none, .buildS 0 [] [] ⟩, ⟨ some 8, none, .mv (.tmp 41) ⟩]) (.seq (.ops [⟨ some 9, none, .mv (.const (.int .i64 0)) ⟩]) (.seq (.seq (.ops [⟨ some 10, none, .mv (.const (.int .i64 0)) ⟩]) (.block 2 (.loop (.seq (.seq (.ops [⟨ some 42, none, .mv (.tmp 10) ⟩, ⟨ some 43, none, .mv (.tmp 1) ⟩, ⟨ some 44, none, .lenS false (.tmp 43) ⟩, ⟨ some 45, none, .bin .lss (.tmp 42) (.tmp 44) ⟩]) (.cond (.tmp 45) .skip (.exit 2))) (.seq (.block 3 (.seq (.ops [⟨ some 11, none, .mv (.const (.int .i64 0)) ⟩]) (.seq (.seq (.ops [⟨ some 12, none, .mv (.const (.int .i64 0)) ⟩]) (.block 4 (.loop (.seq (.seq (.ops [⟨ some 48, none, .mv (.tmp 12) ⟩, ⟨ some 49, none, .mv (.tmp 1) ⟩, ⟨ some 50, none, .mv (.tmp 10) ⟩, ⟨ some 51, none, .iAddrS 1 (.tmp 49) (.tmp 50) ⟩, ⟨ some 52, none, .load none (.tmp 51) ⟩, ⟨ some 53, none, .bin .lss (.tmp 48) (.tmp 52) ⟩]) (.cond (.tmp 53) .skip (.exit 4))) (.seq (.block 5 (.seq (.ops [⟨ some 56, none, .mv (.tmp 11) ⟩, ⟨ some 57, none, .bin .mul (.const (.int .i64 256)) (.tmp 56) ⟩, ⟨ some 58, none, .mv (.tmp 0) ⟩, ⟨ some 59, none, .mv (.tmp 9) ⟩, ⟨ some 60, none, .iStr (.tmp 58) (.tmp 59) ⟩, ⟨ some 61, none, .toInt .i64 (.tmp 60) ⟩, ⟨ some 62, none, .bin .add (.tmp 57) (.tmp 61) ⟩, ⟨ some 11, none, .mv (.tmp 62) ⟩]) (.ops [⟨ some 63, none, .mv (.tmp 9) ⟩, ⟨ some 64, none, .bin .add (.tmp 63) (.const (.int .i64 1)) ⟩, ⟨ some 9, none, .mv (.tmp 64) ⟩]))) (.ops [⟨ some 54, none, .mv (.tmp 12) ⟩, ⟨ some 55, none, .bin .add (.tmp 54) (.const (.int .i64 1)) ⟩, ⟨ some 12, none, .mv (.tmp 55) ⟩])))))) (.ops [⟨ some 65, none, .mv (.tmp 8) ⟩, ⟨ some 66, none, .mv (.tmp 11) ⟩, ⟨ some 67, none, .buildS 1 [.int .i64 0] [(0, 1, .tmp 66)] ⟩, ⟨ some 68, none, .app 1 8 3 (.tmp 65) (.tmp 67) ⟩, ⟨ some 8, none, .mv (.tmp 68) ⟩])))) (.ops [⟨ some 46, none, .mv (.tmp 10) ⟩, ⟨ some 47, none, .bin .add (.tmp 46) (.const (.int .i64 1)) ⟩, ⟨ some 10, none, .mv (.tmp 47) ⟩])))))) (.seq (.ops [⟨ some 69, none, .mv (.tmp 8) ⟩, ⟨ some 4, none, .mv (.tmp 69) ⟩, ⟨ some 5, none, .mv (.const (.int .i64 0)) ⟩]) .ret)))))))
theorem k33 : compF Try.prog Try.f33 = some (c33, [4, 5]) := by kernel_rfl
theorem n33 : Try.f33.ntmps = 70 := by kernel_rfl
def c5 : AC := .seq (.ops [⟨ some 6, none, .mv (.const (.bool false)) ⟩]) (.seq (.seq (.ops [⟨ some 14, none, .call 23 [] ⟩, ⟨ some 15, none, .un .not (.tmp 14) ⟩]) (.cond (.tmp 15) (.seq (.ops [⟨ some 6, none, .mv (.const (.bool false)) ⟩]) .ret) .skip)) (.seq (.seq (.ops [⟨ some 16, none, .mv (.tmp 1) ⟩, ⟨ some 17, none, .lenS false (.tmp 16) ⟩, ⟨ some 18, none, .bin .gtr (.tmp 17) (.const (.int .i64 100)) ⟩, ⟨ some 19, none, .mv (.tmp 18) ⟩, ⟨ some 20, some (19, false), .mv (.tmp 2) ⟩, ⟨ some 21, some (19, false), .lenS true (.tmp 20) ⟩, ⟨ some 22, some (19, false), .bin .gtr (.tmp 21) (.const (.int .i64 300)) ⟩, ⟨ some 23, none, .pick (.tmp 19) (.const (.bool true)) (.tmp 22) ⟩]) (.cond (.tmp 23) (.seq (.ops [⟨ some 6, none, .mv (.const (.bool true)) ⟩]) .ret) .skip)) (.seq (.ops [⟨ some 25, none, .mv (.tmp 0) ⟩, ⟨ some 26, none, .mv (.tmp 1) ⟩, ⟨ some 27, none, .call 24 [.tmp 25, .tmp 26] ⟩, ⟨ some 24, none, .mv (.tmp 27) ⟩, ⟨ some 28, none, .extr (.tmp 24) 0 ⟩, ⟨ some 29, none, .extr (.tmp 24) 1 ⟩, ⟨ some 7, none, .mv (.tmp 28) ⟩, ⟨ some 8, none, .mv (.tmp 29) ⟩]) (.seq (.ops [⟨ some 31, none, .mv (.tmp 0) ⟩, ⟨ some 32, none, .mv (.tmp 1) ⟩, ⟨ some 33, none, .call 29 [.tmp 31, .tmp 32] ⟩, ⟨ some 30, none, .mv (.tmp 33) ⟩, ⟨ some 34, none, .extr (.tmp 30) 0 ⟩, ⟨ some 35, none, .extr (.tmp 30) 1 ⟩, ⟨ some 9, none, .mv (.tmp 34) ⟩, ⟨ some 10, none, .mv (.tmp 35) ⟩]) (.seq (.seq (.ops [⟨ some 36, none, .mv (.tmp 7) ⟩, ⟨ some 37, none, .mv (.tmp 9) ⟩, ⟨ some 38, none, .bin .neq (.tmp 36) (.tmp 37) ⟩, ⟨ some 39, none, .mv (.tmp 38) ⟩, ⟨ some 40, some (39, false), .mv (.tmp 8) ⟩, ⟨ some 41, some (39, false), .mv (.tmp 10) ⟩, ⟨ some 42, some (39, false), .bin .neq (.tmp 40) (.tmp 41) ⟩, ⟨ some 43, none, .pick (.tmp 39) (.const (.bool true)) (.tmp 42) ⟩]) (.cond (.tmp 43) (.seq (.ops [⟨ some 6, none, .mv (.const (.bool false)) ⟩]) .ret) .skip)) (.seq (.seq (.ops [⟨ some 44, none, .mv (.tmp 10) ⟩, ⟨ some 45, none, .bin .neq (.tmp 44) (.const (.int .i64 0)) ⟩]) (.cond (.tmp 45) (.seq (.ops [⟨ some 6, none, .mv (.const (.bool true)) ⟩]) .ret) .skip)) (.seq (.ops [⟨ some 11, none, .mv (.const (.slice none 0 0)) ⟩]) (.seq (.seq (.ops [⟨ some 46, none, .mv (.tmp 1) ⟩, ⟨ some 47, none, .lenS false (.tmp 46) ⟩, ⟨ some 48, none, .mv (.const (.int .i64 0)) ⟩]) (.block 0 (.loop (.seq (.ops [⟨ some 49, none, .bin .lss (.tmp 48) (.tmp 47) ⟩]) (.seq (.cond (.tmp 49) .skip (.exit 0)) (.seq (.block 1 (.ops [⟨ some 50, none, .mv (.tmp 11) ⟩, ⟨ some 51, none, .mv (.tmp 0) ⟩, ⟨ some 52, none, .buildS 1 [.int .i64 0] [(0, 1, .tmp 51)] ⟩, ⟨ some 53, none, .app 1 8 3 (.tmp 50) (.tmp 52) ⟩, ⟨ some 11, none, .mv (.tmp 53) ⟩])) (.ops [⟨ some 54, none, .bin .add (.tmp 48) (.const (.int .i64 1)) ⟩, ⟨ some 48, none, .mv (.tmp 54) ⟩]))))))) (.seq (.ops [⟨ some 56, none, .mv (.tmp 7) ⟩, ⟨ some 57, none, .mv (.tmp 2) ⟩, ⟨ some 58, none, .bin .add (.tmp 56) (.tmp 57) ⟩, ⟨ some 59, none, .mv (.tmp 11) ⟩, ⟨ some 60, none, .call 30 [.tmp 58, .tmp 59] ⟩, ⟨ some 55, none, .mv (.tmp 60) ⟩, ⟨ some 61, none, .extr (.tmp 55) 0 ⟩, ⟨ some 62, none, .extr (.tmp 55) 1 ⟩, ⟨ some 12, none, .mv (.tmp 61) ⟩, ⟨ some 13, none, .mv (.tmp 62) ⟩]) (.seq (.ops [⟨ some 63, none, .mv (.tmp 13) ⟩, ⟨ some 64, none, .bin .eql (.tmp 63) (.const (.int .i64 0)) ⟩, ⟨ some 65, none, .mv (.tmp 64) ⟩, ⟨ some 66, some (65, true), .mv (.tmp 12) ⟩, ⟨ some 67, some (65, true), .mv (.tmp 1) ⟩, ⟨ some 68, some (65, true), .call 31 [.tmp 66, .tmp 67] ⟩, ⟨ some 69, none, .pick (.tmp 65) (.tmp 68) (.const (.bool false)) ⟩, ⟨ some 70, none, .mv (.tmp 69) ⟩, ⟨ some 71, some (70, true), .mv (.tmp 11) ⟩, ⟨ some 72, some (70, true), .call 32 [.tmp 71] ⟩, ⟨ some 73, some (70, true), .mv (.tmp 7) ⟩, ⟨ some 74, some (70, true), .lenS true (.tmp 73) ⟩, ⟨ some 75, some (70, true), .bin .eql (.tmp 72) (.tmp 74) ⟩, ⟨ some 76, none, .pick (.tmp 70) (.tmp 75) (.const (.bool false)) ⟩, ⟨ some 6, none, .mv (.tmp 76) ⟩]) .ret))))))))))
theorem k5 : compF Try.prog Try.f5 = some (c5, [6]) := by kernel_rfl
theorem n5 : Try.f5.ntmps = 77 := by kernel_rfl
def c6 : AC := .seq (.ops [⟨ some 4, none, .mv (.const (.bool false)) ⟩]) (.seq (.seq (.ops [⟨ some 13, none, .call 23 [] ⟩, ⟨ some 14, none, .un .not (.tmp 13) ⟩]) (.cond (.tmp 14) (.seq (.ops [⟨ some 4, none, .mv (.const (.bool false)) ⟩]) .ret) .skip)) (.seq (.seq (.ops [⟨ some 15, none, .mv (.tmp 0) ⟩, ⟨ some 16, none, .lenS true (.tmp 15) ⟩, ⟨ some 17, none, .bin .gtr (.tmp 16) (.const (.int .i64 300)) ⟩, ⟨ some 18, none, .mv (.tmp 17) ⟩, ⟨ some 19, some (18, false), .mv (.tmp 1) ⟩, ⟨ some 20, some (18, false), .lenS false (.tmp 19) ⟩, ⟨ some 21, some (18, false), .bin .gtr (.tmp 20) (.const (.int .i64 100)) ⟩, ⟨ some 22, none, .pick (.tmp 18) (.const (.bool true)) (.tmp 21) ⟩]) (.cond (.tmp 22) (.seq (.ops [⟨ some 4, none, .mv (.const (.bool true)) ⟩]) .ret) .skip)) (.seq (.ops [⟨ some 24, none, .mv (.tmp 0) ⟩, ⟨ some 25, none, .mv (.tmp 1) ⟩, ⟨ some 26, none, .call 30 [.tmp 24, .tmp 25] ⟩, ⟨ some 23, none, .mv (.tmp 26) ⟩, ⟨ some 27, none, .extr (.tmp 23) 0 ⟩, ⟨ some 28, none, .extr (.tmp 23) 1 ⟩, ⟨ some 5, none, .mv (.tmp 27) ⟩, ⟨ some 6, none, .mv (.tmp 28) ⟩]) (.seq (.ops [⟨ some 30, none, .mv (.tmp 0) ⟩, ⟨ some 31, none, .mv (.tmp 1) ⟩, ⟨ some 32, none, .call 33 [.tmp 30, .tmp 31] ⟩, ⟨ some 29, none, .mv (.tmp 32) ⟩, ⟨ some 33, none, .extr (.tmp 29) 0 ⟩, ⟨ some 34, none, .extr (.tmp 29) 1 ⟩, ⟨ some 7, none, .mv (.tmp 33) ⟩, ⟨ some 8, none, .mv (.tmp 34) ⟩]) (.seq (.seq (.ops [⟨ some 35, none, .mv (.tmp 5) ⟩, ⟨ some 36, none, .mv (.tmp 7) ⟩, ⟨ some 37, none, .call 31 [.tmp 35, .tmp 36] ⟩, ⟨ some 38, none, .un .not (.tmp 37) ⟩, ⟨ some 39, none, .mv (.tmp 38) ⟩, ⟨ some 40, some (39, false), .mv (.tmp 6) ⟩, ⟨ some 41, some (39, false), .mv (.tmp 8) ⟩, ⟨ some 42, some (39, false), .bin .neq (.tmp 40) (.tmp 41) ⟩, ⟨ some 43, none, .pick (.tmp 39) (.const (.bool true)) (.tmp 42) ⟩]) (.cond (.tmp 43) (.seq (.ops [⟨ some 4, none, .mv (.const (.bool false)) ⟩]) .ret) .skip)) (.seq (.ops [⟨ some 9, none, .mv (.const (.int .i64 0)) ⟩]) (.seq (.seq (.ops [⟨ some 44, none, .mv (.tmp 5) ⟩, ⟨ some 45, none, .lenS false (.tmp 44) ⟩, ⟨ some 46, none, .mv (.const (.int .i64 0)) ⟩]) (.block 0 (.loop (.seq (.ops [⟨ some 47, none, .bin .lss (.tmp 46) (.tmp 45) ⟩]) (.seq (.cond (.tmp 47) .skip (.exit 0)) (.seq (.block 1 (.seq (.ops [⟨ some 48, none, .mv (.tmp 46) ⟩, ⟨ some 10, none, .mv (.tmp 48) ⟩]) (.seq (.draw [([⟨ some 50, none, .mv (.tmp 1) ⟩, ⟨ some 51, none, .mv (.tmp 10) ⟩, ⟨ some 52, none, .iAddrS 1 (.tmp 50) (.tmp 51) ⟩, ⟨ some 53, none, .load none (.tmp 52) ⟩, ⟨ some 54, none, .mv (.tmp 5) ⟩, ⟨ some 55, none, .mv (.tmp 10) ⟩, ⟨ some 56, none, .iAddrS 1 (.tmp 54) (.tmp 55) ⟩, ⟨ some 57, none, .load none (.tmp 56) ⟩], [⟨ some 58, none, .buildS 1 [.int .i64 0] [(0, 1, .tmp 57)] ⟩], [⟨ some 53, none, .load none (.tmp 52) ⟩]), ([], [⟨ some 59, none, .call 24 [.tmp 53, .tmp 58] ⟩], []), ([⟨ some 49, none, .mv (.tmp 59) ⟩, ⟨ some 60, none, .extr (.tmp 49) 0 ⟩, ⟨ some 61, none, .extr (.tmp 49) 1 ⟩, ⟨ some 11, none, .mv (.tmp 60) ⟩, ⟨ some 12, none, .mv (.tmp 61) ⟩], [], [])]) (.seq (.seq (.ops [⟨ some 62, none, .mv (.tmp 12) ⟩, ⟨ some 63, none, .bin .neq (.tmp 62) (.const (.int .i64 0)) ⟩, ⟨ some 64, none, .mv (.tmp 63) ⟩, ⟨ some 65, some (64, false), .mv (.tmp 11) ⟩, ⟨ some 66, some (64, false), .mv (.tmp 0) ⟩, ⟨ some 67, some (64, false), .mv (.tmp 9) ⟩, ⟨ some 68, some (64, false), .mv (.tmp 9) ⟩, ⟨ some 69, some (64, false), .mv (.tmp 1) ⟩, ⟨ some 70, some (64, false), .mv (.tmp 10) ⟩, ⟨ some 71, some (64, false), .iAddrS 1 (.tmp 69) (.tmp 70) ⟩, ⟨ some 72, some (64, false), .load none (.tmp 71) ⟩, ⟨ some 73, some (64, false), .bin .add (.tmp 68) (.tmp 72) ⟩, ⟨ some 74, some (64, false), .slS (.tmp 66) (some (.tmp 67)) (some (.tmp 73)) ⟩, ⟨ some 75, some (64, false), .bin .neq (.tmp 65) (.tmp 74) ⟩, ⟨ some 76, none, .pick (.tmp 64) (.const (.bool true)) (.tmp 75) ⟩]) (.cond (.tmp 76) (.seq (.ops [⟨ some 4, none, .mv (.const (.bool false)) ⟩]) .ret) .skip)) (.ops [⟨ some 77, none, .mv (.tmp 9) ⟩, ⟨ some 78, none, .mv (.tmp 1) ⟩, ⟨ some 79, none, .mv (.tmp 10) ⟩, ⟨ some 80, none, .iAddrS 1 (.tmp 78) (.tmp 79) ⟩, ⟨ some 81, none, .load none (.tmp 80) ⟩, ⟨ some 82, none, .bin .add (.tmp 77) (.tmp 81) ⟩, ⟨ some 9, none, .mv (.tmp 82) ⟩]))))) (.ops [⟨ some 83, none, .bin .add (.tmp 46) (.const (.int .i64 1)) ⟩, ⟨ some 46, none, .mv (.tmp 83) ⟩]))))))) (.seq (.ops [⟨ some 84, none, .mv (.tmp 8) ⟩, ⟨ some 85, none, .bin .neq (.tmp 84) (.const (.int .i64 0)) ⟩, ⟨ some 86, none, .mv (.tmp 85) ⟩, ⟨ some 87, some (86, false), .mv (.tmp 1) ⟩, ⟨ some 88, some (86, false), .call 32 [.tmp 87] ⟩, ⟨ some 89, some (86, false), .mv (.tmp 9) ⟩, ⟨ some 90, some (86, false), .bin .eql (.tmp 88) (.tmp 89) ⟩, ⟨ some 91, none, .pick (.tmp 86) (.const (.bool true)) (.tmp 90) ⟩, ⟨ some 4, none, .mv (.tmp 91) ⟩]) .ret))))))))
theorem k6 : compF Try.prog Try.f6 = some (c6, [4]) := by kernel_rfl
theorem n6 : Try.f6.ntmps = 92 := by kernel_rfl
/-! strings as lists of bytes -/
/-- the string of these bytes -/
def bs (l : List UInt8) : ByteArray := ⟨l.toArray⟩
theorem bs_of (s : ByteArray) : s = bs s.data.toList := by cases s; simp [bs]
theorem bs_size (l : List UInt8) : (bs l).size = l.length := by show l.toArray.size = _; simp
theorem bs_data (l : List UInt8) : (bs l).data.toList = l := by simp [bs]
theorem bs_inj {a b : List UInt8} : bs a = bs b ↔ a = b := by
  unfold bs
  rw [ByteArray.mk.injEq]
  exact ⟨fun q => List.toArray_inj q, fun q => by rw [q]⟩
theorem bs_append (a b : List UInt8) : bs a ++ bs b = bs (a ++ b) := by
  apply ByteArray.ext
  rw [ByteArray.data_append]
  simp [bs]
theorem bs_extract (a : List UInt8) (i j : Nat) : (bs a).extract i j = bs ((a.take j).drop i) := by
  apply ByteArray.ext
  rw [ByteArray.data_extract]
  simp [bs, List.extract_eq_take_drop, List.drop_take]
theorem bs_nil : (⟨#[]⟩ : ByteArray) = bs [] := rfl
theorem bs_lit (l : List UInt8) : (⟨⟨l⟩⟩ : ByteArray) = bs l := rfl
theorem bs_eq_dec (a b : List UInt8) : decide (bs a = bs b) = decide (a = b) := decide_eq_decide.2 bs_inj
/-- numbers of bytes -/
def tkN (l : List UInt8) : Nat := l.foldl (fun n c => n * 256 + c.toNat) 0
theorem tkN_app (a : List UInt8) (c : UInt8) : tkN (a ++ [c]) = tkN a * 256 + c.toNat := by simp [tkN]
theorem tkN_lt : ∀ (n : Nat) (l : List UInt8), l.length = n → tkN l < 256 ^ n := by
  intro n
  induction n with
  | zero => intro l h; rw [List.eq_nil_of_length_eq_zero h]; decide
  | succ n ih =>
    intro l h
    have hne : l ≠ [] := by intro e; rw [e] at h; simp at h
    rw [← List.dropLast_concat_getLast hne, tkN_app]
    have := ih l.dropLast (by simp [h])
    have hc := (l.getLast hne).toNat_lt
    rw [Nat.pow_succ]
    omega
theorem bN_app : ∀ (n x : Nat), bN (n + 1) x = bN n (x / 256) ++ [UInt8.ofNat (x % 256)]
  | 0, x => by simp [bN]
  | n + 1, x => by
    rw [bN, bN_app n x, bN, List.cons_append]
    congr 2
    rw [Nat.pow_succ, Nat.mul_comm, ← Nat.div_div_eq_div_mul]
theorem bN_tk : ∀ (n : Nat) (l : List UInt8), l.length = n → bN n (tkN l) = l := by
  intro n
  induction n with
  | zero => intro l h; rw [List.eq_nil_of_length_eq_zero h]; rfl
  | succ n ih =>
    intro l h
    have hne : l ≠ [] := by intro e; rw [e] at h; simp at h
    rw [← List.dropLast_concat_getLast hne, tkN_app, bN_app]
    have hc := (l.getLast hne).toNat_lt
    have h1 : (tkN l.dropLast * 256 + (l.getLast hne).toNat) / 256 = tkN l.dropLast := by omega
    have h2 : (tkN l.dropLast * 256 + (l.getLast hne).toNat) % 256 = (l.getLast hne).toNat := by omega
    rw [h1, h2, ih _ (by simp [h])]
    congr 2
    simp
theorem tk_bN : ∀ (n x : Nat), x < 256 ^ n → tkN (bN n x) = x := by
  intro n
  induction n with
  | zero => intro x h; simp at h; subst h; rfl
  | succ n ih =>
    intro x h
    rw [bN_app, tkN_app, ih _ (by rw [Nat.pow_succ] at h; omega)]
    have : (UInt8.ofNat (x % 256)).toNat = x % 256 := by simp
    rw [this]
    omega
/-- the numbers that stand one behind another -/
def tkL : List UInt8 → List Nat → List Int
  | _, [] => []
  | l, k :: ks => (tkN (l.take k) : Int) :: tkL (l.drop k) ks
theorem ok98 : callOk Try.prog 98 = true := by kernel_rfl
abbrev cI (x : Int) : Value := .int .i64 x

theorem same_ok (la lb : List Int) (va vb : Value) (h : Heap) (ha : Sl cI h va la) (hb' : Sl cI h vb lb) (hn : la.length ≤ 68719476736) :
    ACalls Try.prog 31 [va, vb] h fun v h' => v = .bool (decide (la = lb)) ∧ h' = h := by
  refine acalls_of mix Try.func31 k31 n31 (by simp) fun hcl hb => ?_
  have ba := ha.below hcl
  have bb := hb'.below hcl
  obtain ⟨a1, c1, rfl⟩ := ha.form
  obtain ⟨a2, c2, rfl⟩ := hb'.form
  simp [c31]
  by_cases hlen : la.length = lb.length
  case neg =>
    have : ¬ (la.length : Int) = lb.length := by omega
    simp [this]
    intro e; rw [e] at hlen; exact hlen rfl
  simp [hlen]
  refine awp_loop_of (α := Nat) (fun i => i ≤ lb.length ∧ la.take i = lb.take i) (fun i => [(0, .slice a1 lb.length c1), (1, .slice a2 lb.length c2), (5, .int .i64 i)]) (fun _ => h) (fun i => lb.length - i) 0
    ⟨Nat.zero_le _, by simp⟩ (Heap.Sub.refl hcl) (by simp [hlen] at ba ⊢; exact ⟨ba, bb, .int⟩) ?_
  rintro i ⟨hil, htake⟩
  by_cases hlt : i < lb.length
  · have hlt' : i < la.length := by omega
    obtain ⟨b1, o1, cs1, m1, e1, rfl, _, g1, g1'⟩ := ha.at hlt'
    obtain ⟨b2, o2, cs2, m2, e2, rfl, _, g2, g2'⟩ := hb'.at hlt
    simp [hlt, aidx_of hlt, g1, g2, apart, g1', g2']
    by_cases he : la[i] = lb[i]
    · simp [he]
      refine ⟨i + 1, by omega, ⟨by omega, ?_⟩, Heap.Sub.refl hcl, ?_, bb, ?_, .int⟩
      · rw [List.take_succ_eq_append_getElem hlt, List.take_succ_eq_append_getElem hlt', htake, he]
      · simpa [hlen] using ba
      · rw [IntWalk.i64_in _ (by omega)]; omega
    · simp [he]
      intro e; subst e; exact he rfl
  · have : i = lb.length := by omega
    subst this
    rw [List.take_of_length_le (by omega), List.take_of_length_le (by omega)] at htake
    simp [htake]

def wr (n : Int) : Bool := decide (n < 1) || decide (7 < n)
def bad (l : List Int) : Bool := l.any wr
theorem bad_app (l : List Int) (x : Int) : bad (l ++ [x]) = (bad l || wr x) := by simp [bad]
theorem bad_mem {l : List Int} {x : Int} (hx : x ∈ l) (w : wr x = true) : bad l = true := List.any_eq_true.2 ⟨x, hx, w⟩
theorem not_bad {l : List Int} (h : bad l = false) : ∀ x ∈ l, wr x = false := fun x hx => by simpa using List.any_eq_false.1 h x hx
theorem idx_ok (l : List Int) (v : Value) (h : Heap) (hl : Sl cI h v l) (hn : l.length ≤ 68719476736) :
    ACalls Try.prog 126 [v, .func (.func 98) #[] #[]] h fun r h' => (∃ k, r = .int .i64 k ∧ (0 ≤ k ↔ bad l = true)) ∧ h' = h := by
  refine acalls_of mix Try.func126 k126 n126 (by simp) fun hcl hb => ?_
  have bl := hl.below hcl
  obtain ⟨a, c, rfl⟩ := hl.form
  simp [c126]
  refine awp_loop_of (α := Nat) (fun i => i ≤ l.length ∧ bad (l.take i) = false) (fun i => [(0, .slice a l.length c), (1, .func (.func 98) #[] #[]), (7, .int .i64 l.length), (8, .int .i64 i)]) (fun _ => h) (fun i => l.length - i) 0
    ⟨Nat.zero_le _, by simp [bad]⟩ (Heap.Sub.refl hcl) (by simp; exact ⟨bl, by exact hb _ (by simp), .int, .int⟩) ?_
  rintro i ⟨hil, hany⟩
  by_cases hlt : i < l.length
  · obtain ⟨b1, o1, cs1, m1, e1, rfl, _, g1, g1'⟩ := hl.at hlt
    simp [hlt, aidx_of hlt, g1, apart, g1', ok98]
    refine (wrong_ok _ _).mono ?_
    rintro v1 h1 ⟨rfl, e⟩
    subst e
    by_cases w : wr l[i] = true
    · have w' := w
      unfold wr at w'
      simp [w']
      exact bad_mem (List.getElem_mem hlt) w
    · have w' : wr l[i] = false := by simpa using w
      unfold wr at w'
      simp [w']
      refine ⟨i + 1, by omega, ⟨by omega, ?_⟩, Heap.Sub.refl hcl, bl, by exact hb _ (by simp), .int, ?_, .int⟩
      · rw [List.take_succ_eq_append_getElem hlt, bad_app, hany, (by simpa using w : wr l[i] = false)]
        rfl
      · rw [IntWalk.i64_in _ (by omega)]; omega
  · have : i = l.length := by omega
    subst this
    rw [List.take_of_length_le (by omega)] at hany
    simp [hany]

theorem cont_ok (l : List Int) (v : Value) (h : Heap) (hl : Sl cI h v l) (hn : l.length ≤ 68719476736) :
    ACalls Try.prog 101 [v, .func (.func 98) #[] #[]] h fun r h' => r = .bool (bad l) ∧ h' = h := by
  refine acalls_of mix Try.func101 k101 n101 (by simp) fun hcl hb => ?_
  simp [c101]
  refine (idx_ok l v h hl hn).mono ?_
  rintro v1 h1 ⟨⟨k, rfl, hk⟩, e⟩
  subst e
  simp
  rw [Bool.eq_iff_iff, decide_eq_true_eq, hk]

def sumI (l : List Int) : Int := l.foldl (· + ·) 0
theorem sumI_app (l : List Int) (x : Int) : sumI (l ++ [x]) = sumI l + x := by simp [sumI]
theorem sumI_bound : ∀ (n : Nat) (l : List Int), l.length = n → (∀ x ∈ l, wr x = false) → 0 ≤ sumI l ∧ sumI l ≤ 7 * l.length := by
  intro n
  induction n with
  | zero => intro l h _; rw [List.eq_nil_of_length_eq_zero h]; decide
  | succ n ih =>
    intro l h hw
    have hne : l ≠ [] := by intro e; rw [e] at h; simp at h
    have hd := ih l.dropLast (by simp [h]) fun x hx => hw x (List.dropLast_subset l hx)
    have hx := hw _ (List.getLast_mem hne)
    unfold wr at hx
    simp only [Bool.or_eq_false_iff, decide_eq_false_iff_not] at hx
    have hs := sumI_app l.dropLast (l.getLast hne)
    rw [List.dropLast_concat_getLast hne] at hs
    rw [hs]
    simp only [List.length_dropLast] at hd
    have : ((l.length - 1 : Nat) : Int) = l.length - 1 := by omega
    omega

theorem size_ok (l : List Int) (v : Value) (h : Heap) (hl : Sl cI h v l) (hn : l.length ≤ 68719476736) :
    ACalls Try.prog 32 [v] h fun r h' => r = .int .i64 (if bad l then 0 else sumI l) ∧ h' = h := by
  refine acalls_of mix Try.func32 k32 n32 (by simp) fun hcl hb => ?_
  have bl := hl.below hcl
  simp [c32]
  refine (cont_ok l v h hl hn).mono ?_
  rintro v1 h1 ⟨rfl, e⟩
  subst e
  by_cases w : bad l = true
  · simp [w]
  have w' : bad l = false := by simpa using w
  have hwr := not_bad w'
  obtain ⟨a, c, rfl⟩ := hl.form
  simp [w']
  refine awp_loop_of (α := Nat) (fun i => i ≤ l.length) (fun i => [(3, .int .i64 (sumI (l.take i))), (8, .slice a l.length c), (9, .int .i64 l.length), (10, .int .i64 i)]) (fun _ => h1) (fun i => l.length - i) 0
    (Nat.zero_le _) (Heap.Sub.refl hcl) (by simp [sumI]; exact ⟨.int, bl, .int, .int⟩) ?_
  rintro i hil
  by_cases hlt : i < l.length
  · obtain ⟨b1, o1, cs1, m1, e1, rfl, _, g1, g1'⟩ := hl.at hlt
    have hs := sumI_bound _ (l.take (i + 1)) rfl fun x hx => hwr x (List.mem_of_mem_take hx)
    rw [List.take_succ_eq_append_getElem hlt, sumI_app, List.length_append, List.length_take] at hs
    simp [hlt, aidx_of hlt, g1, apart, g1']
    refine ⟨i + 1, by omega, by omega, Heap.Sub.refl hcl, ⟨?_, .int⟩, bl, .int, ?_, .int⟩
    · rw [List.take_succ_eq_append_getElem hlt, sumI_app]
      rw [IntWalk.i64_in _ (by simp at hs; omega)]
    · rw [IntWalk.i64_in _ (by omega)]; omega
  · have : i = l.length := by omega
    subst this
    simp [w']
theorem i64_small {n : Int} (h0 : 0 ≤ n) (h1 : n < 9223372036854775808) : IntKind.i64.wrap n = n := IntWalk.i64_in _ (by omega)
/-- a number shifted, and a byte -/
theorem shl_or (n : Nat) (c : UInt8) (hn : n < 72057594037927936 / 2) : abits .or .i64 (IntKind.i64.wrap ((n : Int) * 2 ^ (min (8 : Int).toNat IntKind.i64.bits))) (IntKind.i64.wrap (c.toNat : Int)) = ((n * 256 + c.toNat : Nat) : Int) := by
  have hc := c.toNat_lt
  have e1 : (2 : Int) ^ (min (8 : Int).toNat IntKind.i64.bits) = 256 := by decide
  rw [e1, i64_small (by omega) (by omega), i64_small (by omega) (by omega)]
  unfold abits
  have e2 : ((n : Int) * 256) = ((n * 256 : Nat) : Int) := by omega
  rw [e2]
  simp only [BitVec.ofInt_natCast, show IntKind.i64.bits = 64 from rfl]
  have e3 : 2 ^ IntKind.i64.bits = 18446744073709551616 := by decide
  rw [BitVec.toNat_or, BitVec.toNat_ofNat, BitVec.toNat_ofNat, e3, Nat.mod_eq_of_lt (by omega), Nat.mod_eq_of_lt (by omega)]
  have : n * 256 ||| c.toNat = n * 256 + c.toNat := by
    rw [show n * 256 = n <<< 8 by rw [Nat.shiftLeft_eq]]
    exact (Nat.shiftLeft_add_eq_or_of_lt (by omega) n).symm
  rw [this, i64_small (by omega) (by omega)]

theorem abounds_hi {L k : Nat} (h : k ≤ L) : abounds L L none (some (.int .i64 (k : Int))) none = some (0, k, L) := by
  have : abound (.int .i64 (k : Int)) L = some k := by unfold abound; simp only; rw [if_pos ⟨by omega, by omega⟩]; rfl
  simp [abounds, this]
theorem abounds_lo {L k : Nat} (h : k ≤ L) : abounds L L (some (.int .i64 (k : Int))) none none = some (k, L, L) := by
  have : abound (.int .i64 (k : Int)) L = some k := by unfold abound; simp only; rw [if_pos ⟨by omega, by omega⟩]; rfl
  simp [abounds, this]

/-- the numbers of sizes -/
def nats (l : List Int) : List Nat := l.map Int.toNat
def sumN (l : List Nat) : Nat := l.foldl (· + ·) 0
theorem sumN_app (l : List Nat) (x : Nat) : sumN (l ++ [x]) = sumN l + x := by simp [sumN]
theorem tkL_len : ∀ (l : List UInt8) (ks : List Nat), (tkL l ks).length = ks.length
  | _, [] => rfl
  | l, k :: ks => by simp [tkL, tkL_len (l.drop k) ks]
theorem tkL_get : ∀ (l : List UInt8) (ks : List Nat) (i : Nat) (h : i < ks.length), (tkL l ks)[i]'(by rw [tkL_len]; exact h) = (tkN ((l.drop (sumN (ks.take i))).take ks[i]) : Int)
  | _, [], i, h => by simp at h
  | l, k :: ks, 0, h => by simp [tkL, sumN]
  | l, k :: ks, i + 1, h => by
    have := tkL_get (l.drop k) ks i (by simpa using h)
    simp only [tkL, List.getElem_cons_succ, this, List.drop_drop]
    congr 4
    have e : sumN (List.take (i + 1) (k :: ks)) = k + sumN (ks.take i) := by
      unfold sumN
      rw [List.take_succ_cons, List.foldl_cons]
      have hf : ∀ (xs : List Nat) (a : Nat), xs.foldl (· + ·) a = a + xs.foldl (· + ·) 0 := by
        intro xs
        induction xs with
        | nil => intro a; rfl
        | cons x xs ih => intro a; rw [List.foldl_cons, ih, List.foldl_cons, ih (0 + x)]; omega
      rw [hf]; omega
    rw [e]
theorem tkL_take (l : List UInt8) (ks : List Nat) (i : Nat) (h : i < ks.length) : (tkL l ks).take (i + 1) = (tkL l ks).take i ++ [(tkN ((l.drop (sumN (ks.take i))).take ks[i]) : Int)] := by
  rw [List.take_succ_eq_append_getElem (by rw [tkL_len]; exact h), tkL_get l ks i h]
theorem sum_nats : ∀ (n : Nat) (l : List Int), l.length = n → (∀ x ∈ l, wr x = false) → sumI l = (sumN (nats l) : Int) := by
  intro n
  induction n with
  | zero => intro l h _; rw [List.eq_nil_of_length_eq_zero h]; rfl
  | succ n ih =>
    intro l h hw
    have hne : l ≠ [] := by intro e; rw [e] at h; simp at h
    have hd := ih l.dropLast (by simp [h]) fun x hx => hw x (List.dropLast_subset l hx)
    have hx := hw _ (List.getLast_mem hne)
    unfold wr at hx
    simp only [Bool.or_eq_false_iff, decide_eq_false_iff_not] at hx
    have e := List.dropLast_concat_getLast hne
    rw [← e]
    unfold nats at hd ⊢
    rw [sumI_app, hd, List.map_append, List.map_cons, List.map_nil, sumN_app]
    omega
theorem sumN_le : ∀ (ks : List Nat) (i : Nat) (h : i < ks.length), sumN (ks.take i) + ks[i] ≤ sumN ks := by
  intro ks i h
  have hf : ∀ (xs : List Nat) (a : Nat), a ≤ xs.foldl (· + ·) a := by
    intro xs
    induction xs with
    | nil => intro a; exact Nat.le_refl _
    | cons x xs ih => intro a; exact Nat.le_trans (Nat.le_add_right a x) (ih (a + x))
  rw [← sumN_app, ← List.take_succ_eq_append_getElem h]
  conv => rhs; rw [← List.take_append_drop (i + 1) ks]
  unfold sumN
  rw [List.foldl_append]
  exact hf _ _

/-- what num.Take answers: the numbers, the error's -/
def takeR (b : List UInt8) (sz : List Int) : List Int × Int := if bad sz then ([], 1) else if b.length < sumN (nats sz) then ([], 13) else (tkL b (nats sz), 0)

theorem take_ok (b : List UInt8) (sz : List Int) (v : Value) (h : Heap) (hl : Sl cI h v sz) (hn : sz.length ≤ 1073741824) (hb40 : b.length ≤ 1099511627776) :
    ACalls Try.prog 30 [.string (bs b), v] h fun r h' => (∃ o, r = .tuple #[o, .int .i64 (takeR b sz).2] ∧ Sl cI h' o (takeR b sz).1) ∧ h.Sub h.n h' := by
  refine acalls_of mix Try.func30 k30 n30 (by simp) fun hcl hb => ?_
  have bl := hl.below hcl
  simp [c30]
  refine (cont_ok sz v h hl (by omega)).mono ?_
  rintro v1 h1 ⟨rfl, e⟩
  subst e
  by_cases w : bad sz = true
  · simp [w, takeR]
    exact ⟨.inl ⟨0, rfl, rfl⟩, Heap.Sub.refl hcl⟩
  have w' : bad sz = false := by simpa using w
  have hwr := not_bad w'
  simp [w']
  refine (size_ok sz v h1 hl (by omega)).mono ?_
  rintro v1 h2 ⟨rfl, e⟩
  subst e
  simp [w', bs_size]
  have hsum := sum_nats _ sz rfl hwr
  rw [hsum]
  by_cases hshort : b.length < sumN (nats sz)
  · have q : (b.length : Int) < (sumN (nats sz) : Nat) := by omega
    simp [q, takeR, w', hshort]
    exact ⟨.inl ⟨0, rfl, rfl⟩, Heap.Sub.refl hcl⟩
  have q : ¬ (b.length : Int) < (sumN (nats sz) : Nat) := by omega
  have hR : takeR b sz = (tkL b (nats sz), 0) := by simp [takeR, w', hshort]
  simp [q, hR]
  obtain ⟨a, c, rfl⟩ := hl.form
  have hnl : (nats sz).length = sz.length := by simp [nats]
  simp
  refine awp_loop_of (α := Nat × Value × Heap) (fun x => x.1 ≤ sz.length ∧ Own h2 1 x.1 (((tkL b (nats sz)).take x.1).map cI) x.2.1 x.2.2)
    (fun x => [(0, .string (bs (b.drop (sumN ((nats sz).take x.1))))), (6, x.2.1), (21, .slice a sz.length c), (22, .int .i64 sz.length), (23, .int .i64 x.1)]) (fun x => x.2.2) (fun x => sz.length - x.1) (0, .slice none 0 0, h2)
    ⟨Nat.zero_le _, by simpa using Own.start h2 1⟩ (Heap.Sub.refl hcl) (by simp [sumN]; exact ⟨.string, .snil, bl, .int, .int⟩) ?_
  rintro ⟨i, vi, H⟩ ⟨hil, hown⟩
  dsimp only at hil hown
  have hbel : ∀ x ∈ ((tkL b (nats sz)).take i).map cI, VBelow h2.n x := fun x hx => by obtain ⟨y, _, rfl⟩ := List.mem_map.1 hx; exact .int
  have hkeep : ∀ bb oo, h2.m bb = some oo → H.m bb = some oo := fun bb oo e => by rw [hown.old (hcl bb oo e).1]; exact e
  have hcH := hown.closed hcl hbel
  have hnH := hown.1
  by_cases hlt : i < sz.length
  · obtain ⟨b1, o1, cs1, m1, e1, rfl, _, g1, g1'⟩ := hl.at hlt
    have g1H := cellsOf_keep hkeep g1
    have hw := hwr sz[i] (List.getElem_mem hlt)
    unfold wr at hw
    simp only [Bool.or_eq_false_iff, decide_eq_false_iff_not] at hw
    obtain ⟨k, hk⟩ : ∃ k : Nat, sz[i] = k := ⟨sz[i].toNat, by omega⟩
    have hki : (nats sz)[i]'(by rw [hnl]; exact hlt) = k := by simp [nats, hk]
    have hle := sumN_le (nats sz) i (by rw [hnl]; exact hlt)
    rw [hki] at hle
    have hkl : k ≤ (b.drop (sumN ((nats sz).take i))).length := by rw [List.length_drop]; omega
    have hk7 : k ≤ 7 := by omega
    have hlt1 : (List.take k (b.drop (sumN ((nats sz).take i)))).length = k := by rw [List.length_take]; omega
    have hnum := tkL_take b (nats sz) i (by rw [hnl]; exact hlt)
    have hnext : List.drop k (List.drop (sumN (List.take i (nats sz))) b) = List.drop (sumN (List.take (i + 1) (nats sz))) b := by
      rw [List.drop_drop, List.take_succ_eq_append_getElem (by rw [hnl]; exact hlt), sumN_app, hki]
    rw [hki] at hnum
    generalize hD : List.drop (sumN (List.take i (nats sz))) b = D at hkl hlt1 hnum hnext ⊢
    simp [hlt, aidx_of hlt, g1H, apart, g1', hk, bs_size, abounds_hi hkl, bs_extract, hlt1, bs_data, show k ≤ 1099511627776 by omega]
    have hbelT : AObj.Below (H.n + 1) (.cells (List.take k (D.map fun b => Value.int .u8 (b.toNat : Int))) (.loose 5) 1) := fun x hx => by obtain ⟨y, _, rfl⟩ := List.mem_map.1 (List.mem_of_mem_take hx); exact .int
    have hcH1 : (H.push (.cells (List.take k (D.map fun b => Value.int .u8 (b.toNat : Int))) (.loose 5) 1)).Closed := closed_push hcH hbelT
    have hvb := hown.below
    refine awp_loop_of (α := Nat) (fun j => j ≤ k) (fun j => [(0, .string (bs D)), (6, vi), (8, .int .i64 k), (9, .int .i64 (tkN (D.take j))), (21, .slice (some ⟨b1, o1, none⟩) sz.length c), (22, .int .i64 sz.length), (23, .int .i64 i), (30, .slice (some ⟨H.n, 0, none⟩) k k), (31, .int .i64 k), (32, .int .i64 j)])
      (fun _ => H.push (.cells (List.take k (D.map fun b => Value.int .u8 (b.toNat : Int))) (.loose 5) 1)) (fun j => k - j) 0 (Nat.zero_le _) ⟨by show h2.n ≤ H.n + 1; omega, Nat.le_refl _, fun _ _ e => e, hcH1⟩
      (by simp [tkN]; exact ⟨.string, hvb.mono (Nat.le_succ _), .int, .int, bl.mono (by show h2.n ≤ H.n + 1; omega), .int, .int, .slice (Nat.lt_succ_self _), .int, .int⟩) ?_
    rintro j hj
    by_cases hjlt : j < k
    · have hjD : j < D.length := by omega
      have hget : (D.take k)[j]'(by omega) = D[j] := by simp
      have hst : List.take (j + 1) D = List.take j D ++ [D[j]] := List.take_succ_eq_append_getElem hjD
      have hb1 := tkN_lt _ (D.take j) rfl
      have hb2 : tkN (D.take j) < 72057594037927936 / 2 := by
        refine Nat.lt_of_lt_of_le hb1 ?_
        refine Nat.le_trans (Nat.pow_le_pow_right (by omega) (show (List.take j D).length ≤ 6 by rw [List.length_take]; omega)) (by decide)
      have hso := shl_or (tkN (D.take j)) D[j] hb2
      simp [hjlt, aidx_of hjlt, Heap.cellsOf, push_m, apart, hjD]
      refine ⟨j + 1, by omega, by omega, ⟨by show h2.n ≤ H.n + 1; omega, Nat.le_refl _, fun _ _ e => e, hcH1⟩, .string, hvb.mono (Nat.le_succ _), .int, ⟨?_, .int⟩, bl.mono (by show h2.n ≤ H.n + 1; omega), .int, .int, .slice (Nat.lt_succ_self _), .int, ?_, .int⟩
      · rw [hst, tkN_app]; exact hso
      · rw [i64_small (by omega) (by omega)]; omega
    · have hje : j = k := by omega
      subst hje
      obtain ⟨a, cc, rfl, v2, H2, H3, happ, hown3, hn3, hin3⟩ := hown.app (H' := (H.push (.cells (List.take j (D.map fun b => Value.int .u8 (b.toNat : Int))) (.loose 5) 1)).push (.cells [cI (tkN (List.take j D))] .ex 1)) (t := 3) (bytes := 8) (k := 1) (new := [cI (tkN (List.take j D))]) hcl
        (by show H.n ≤ H.n + 1 + 1; omega) (fun b hb => by rw [push_m, if_neg (by show ¬ b = H.n + 1; omega), push_m, if_neg (by omega)]) (by omega) rfl (by omega)
      simp [bs_size, abounds_lo hkl, bs_extract, afill, mcells, alen, afirst, Heap.cellsOf, push_m, acut, happ] at happ ⊢
      refine ⟨i + 1, by omega, v2, H3, ⟨by omega, ?_⟩, ⟨hown3.1, by omega, hin3, hown3.closed hcl ?_⟩, ⟨?_, .string⟩, ⟨rfl, hown3.below⟩, bl.mono hown3.1, .int, ?_, .int⟩
      · rw [← List.map_take, hnum]; simpa using hown3
      · intro x hx
        rcases List.mem_append.1 hx with hx | hx
        · exact hbel x hx
        · rw [List.mem_singleton.1 hx]; exact .int
      · rw [hnext]
      · rw [i64_small (by omega) (by omega)]; omega
  · have : i = sz.length := by omega
    subst this
    rw [List.take_of_length_le (by rw [tkL_len, hnl]; omega)] at hown
    simp
    exact ⟨hown.sl, hown.sub hcl⟩

/-! the document's answers -/
theorem refTake_ok (b : List UInt8) (sz : List Int) (v : Value) (h : Heap) (hl : Sl cI h v sz) (hn : sz.length ≤ 1073741824) (hb40 : b.length ≤ 1099511627776) :
    ACalls Try.prog 33 [.string (bs b), v] h fun r h' => (∃ o, r = .tuple #[o, .int .i64 (takeR b sz).2] ∧ Sl cI h' o (takeR b sz).1) ∧ h.Sub h.n h' := by
  refine acalls_of mix Try.func33 k33 n33 (by simp) fun hcl hb => ?_
  have bl := hl.below hcl
  obtain ⟨a, c, rfl⟩ := hl.form
  simp [c33]
  refine awp_loop_of (α := Nat) (fun i => i ≤ sz.length ∧ bad (sz.take i) = false) (fun i => [(0, .string (bs b)), (1, .slice a sz.length c), (6, .int .i64 (sumI (sz.take i))), (7, .int .i64 i)]) (fun _ => h) (fun i => sz.length - i) 0
    ⟨Nat.zero_le _, by simp [bad]⟩ (Heap.Sub.refl hcl) (by simp [sumI]; exact ⟨.string, bl, .int⟩) ?_
  rintro i ⟨hil, hbad⟩
  by_cases hlt : i < sz.length
  · obtain ⟨b1, o1, cs1, m1, e1, rfl, _, g1, g1'⟩ := hl.at hlt
    have hst : sz.take (i + 1) = sz.take i ++ [sz[i]] := List.take_succ_eq_append_getElem hlt
    simp [hlt, aidx_of hlt, g1, apart, g1']
    by_cases w : wr sz[i] = true
    · have hR : takeR b sz = ([], 1) := by simp [takeR, bad_mem (List.getElem_mem hlt) w]
      have w' := w
      unfold wr at w'
      rw [Bool.or_eq_true, decide_eq_true_eq, decide_eq_true_eq] at w'
      by_cases h1 : sz[i] < 1
      · simp [h1, hR]
        exact ⟨.inl ⟨0, rfl, rfl⟩, Heap.Sub.refl hcl⟩
      · have h7 : 7 < sz[i] := by omega
        simp [h1, h7, hR, hlt, aidx_of hlt, g1, apart, g1']
        exact ⟨.inl ⟨0, rfl, rfl⟩, Heap.Sub.refl hcl⟩
    · have w0 : wr sz[i] = false := by simpa using w
      have w' := w0
      unfold wr at w'
      rw [Bool.or_eq_false_iff, decide_eq_false_iff_not, decide_eq_false_iff_not] at w'
      have hbad1 : bad (sz.take (i + 1)) = false := by rw [hst, bad_app, hbad, w0]; rfl
      have hs := sumI_bound _ (sz.take (i + 1)) rfl (not_bad hbad1)
      rw [hst, sumI_app, List.length_append, List.length_take] at hs
      simp at hs
      simp [w'.1, w'.2, hlt, aidx_of hlt, g1, apart, g1']
      refine ⟨i + 1, by omega, ⟨by omega, hbad1⟩, Heap.Sub.refl hcl, .string, bl, ⟨?_, .int⟩, ?_, .int⟩
      · rw [hst, sumI_app, i64_small (by omega) (by omega)]
      · rw [i64_small (by omega) (by omega)]; omega
  have hie : i = sz.length := by omega
  subst hie
  rw [List.take_of_length_le (Nat.le_refl _)] at hbad
  have hwr := not_bad hbad
  have hsum := sum_nats _ sz rfl hwr
  simp [bs_size, hsum]
  by_cases hshort : b.length < sumN (nats sz)
  · have q : (b.length : Int) < (sumN (nats sz) : Nat) := by omega
    simp [takeR, hbad, hshort]
    exact ⟨.inl ⟨0, rfl, rfl⟩, Heap.Sub.refl hcl⟩
  have q : ¬ (b.length : Int) < (sumN (nats sz) : Nat) := by omega
  have hR : takeR b sz = (tkL b (nats sz), 0) := by simp [takeR, hbad, hshort]
  simp [hshort, hR, afill]
  have hnl : (nats sz).length = sz.length := by simp [nats]
  refine awp_loop_of (α := Nat × Value × Heap) (fun x => x.1 ≤ sz.length ∧ Own h 1 x.1 (((tkL b (nats sz)).take x.1).map cI) x.2.1 x.2.2)
    (fun x => [(0, .string (bs b)), (1, .slice a sz.length c), (8, x.2.1), (9, .int .i64 (sumN ((nats sz).take x.1) : Nat)), (10, .int .i64 x.1)]) (fun x => x.2.2) (fun x => sz.length - x.1) (0, .slice (some ⟨h.n, 0, none⟩) 0 0, h.push (.cells [] .ex 1))
    ⟨Nat.zero_le _, by simpa using Own.made h 1⟩ ⟨Nat.le_succ _, Nat.le_refl _, fun _ _ e => e, closed_push hcl (fun x hx => by cases hx)⟩ (by simp [sumN]; exact ⟨.string, bl.mono (Nat.le_succ _), .slice (Nat.lt_succ_self _), .int⟩) ?_
  rintro ⟨i, vi, H⟩ ⟨hil, hown⟩
  dsimp only at hil hown
  have hbel : ∀ x ∈ ((tkL b (nats sz)).take i).map cI, VBelow h.n x := fun x hx => by obtain ⟨y, _, rfl⟩ := List.mem_map.1 hx; exact .int
  have hkeep : ∀ bb oo, h.m bb = some oo → H.m bb = some oo := fun bb oo e => by rw [hown.old (hcl bb oo e).1]; exact e
  have hcH := hown.closed hcl hbel
  have hnH := hown.1
  by_cases hlt : i < sz.length
  · obtain ⟨b1, o1, cs1, m1, e1, rfl, _, g1, g1'⟩ := hl.at hlt
    have g1H := cellsOf_keep hkeep g1
    have hw := hwr sz[i] (List.getElem_mem hlt)
    unfold wr at hw
    simp only [Bool.or_eq_false_iff, decide_eq_false_iff_not] at hw
    obtain ⟨k, hk⟩ : ∃ k : Nat, sz[i] = k := ⟨sz[i].toNat, by omega⟩
    have hki : (nats sz)[i]'(by rw [hnl]; exact hlt) = k := by simp [nats, hk]
    have hle := sumN_le (nats sz) i (by rw [hnl]; exact hlt)
    rw [hki] at hle
    have hk7 : k ≤ 7 := by omega
    have hnum := tkL_take b (nats sz) i (by rw [hnl]; exact hlt)
    have hnext : sumN (List.take (i + 1) (nats sz)) = sumN (List.take i (nats sz)) + k := by
      rw [List.take_succ_eq_append_getElem (by rw [hnl]; exact hlt), sumN_app, hki]
    rw [hki] at hnum
    generalize hA : sumN (List.take i (nats sz)) = A at hle hnum hnext ⊢
    simp [hlt]
    have hvb := hown.below
    refine awp_loop_of (α := Nat) (fun j => j ≤ k) (fun j => [(0, .string (bs b)), (1, .slice (some ⟨b1, o1, none⟩) sz.length c), (8, vi), (9, .int .i64 ((A + j : Nat) : Int)), (10, .int .i64 i), (11, .int .i64 (tkN ((b.drop A).take j))), (12, .int .i64 j)])
      (fun _ => H) (fun j => k - j) 0 (Nat.zero_le _) ⟨hnH, Nat.le_refl _, fun _ _ e => e, hcH⟩
      (by simp [tkN]; exact ⟨.string, bl.mono hnH, hvb, .int, .int, .int⟩) ?_
    rintro j hj
    simp [aidx_of hlt, g1H, apart, g1', hk]
    by_cases hjlt : j < k
    · have hjD : j < (b.drop A).length := by rw [List.length_drop]; omega
      have hAj : A + j < b.length := by omega
      have hst : List.take (j + 1) (b.drop A) = List.take j (b.drop A) ++ [b[A + j]] := by
        rw [List.take_succ_eq_append_getElem hjD, List.getElem_drop]
      have hb1 := tkN_lt _ ((b.drop A).take j) rfl
      have hb2 : tkN ((b.drop A).take j) < 72057594037927936 / 2 := by
        refine Nat.lt_of_lt_of_le hb1 ?_
        refine Nat.le_trans (Nat.pow_le_pow_right (by omega) (show (List.take j (b.drop A)).length ≤ 6 by rw [List.length_take]; omega)) (by decide)
      have hgb : b[A + j]? = some b[A + j] := by simp [hAj]
      have hx : aidx (.int .i64 ((A : Int) + j)) b.length = some (A + j) := by
        have := aidx_of (k := .i64) hAj
        rw [← this]; congr 2
      have hc := b[A + j].toNat_lt
      simp [hjlt, bs_size, hx, bs_data, hgb]
      refine ⟨j + 1, by omega, by omega, ⟨hnH, Nat.le_refl _, fun _ _ e => e, hcH⟩, .string, bl.mono hnH, hvb, ⟨?_, .int⟩, .int, ⟨?_, .int⟩, ?_, .int⟩
      · rw [i64_small (by omega) (by omega)]; omega
      · rw [hst, tkN_app, i64_small (n := (b[A + j].toNat : Int)) (by omega) (by omega), i64_small (n := 256 * (tkN ((b.drop A).take j) : Int)) (by omega) (by omega), i64_small (by omega) (by omega)]
        omega
      · rw [i64_small (by omega) (by omega)]; omega
    · have hje : j = k := by omega
      subst hje
      obtain ⟨a, cc, rfl, v2, H2, H3, happ, hown3, hn3, hin3⟩ := hown.app (H' := H.push (.cells [cI (tkN ((b.drop A).take j))] .ex 1)) (t := 3) (bytes := 8) (k := 1) (new := [cI (tkN ((b.drop A).take j))]) hcl
        (by show H.n ≤ H.n + 1; omega) (fun b hb => by rw [push_m, if_neg (by omega)]) (by omega) rfl (by omega)
      simp [afill, mcells, alen, afirst, Heap.cellsOf, push_m, acut, happ] at happ ⊢
      refine ⟨i + 1, by omega, v2, H3, ⟨by omega, ?_⟩, ⟨hown3.1, by omega, hin3, hown3.closed hcl ?_⟩, .string, bl.mono hown3.1, ⟨rfl, hown3.below⟩, ⟨?_, .int⟩, ?_, .int⟩
      · rw [← List.map_take, hnum]; simpa using hown3
      · intro x hx
        rcases List.mem_append.1 hx with hx | hx
        · exact hbel x hx
        · rw [List.mem_singleton.1 hx]; exact .int
      · rw [hnext]; omega
      · rw [i64_small (by omega) (by omega)]; omega
  · have : i = sz.length := by omega
    subst this
    rw [List.take_of_length_le (by rw [tkL_len, hnl]; omega)] at hown
    simp
    exact ⟨hown.sl, hown.sub hcl⟩
theorem putStr (n : Nat) (l : List Int) (hf : ∀ k ∈ l, fits n k) : bytesOfInts (l.flatMap (beB n)) = bs (l.flatMap fun k => bN n k.toNat) := by
  unfold bytesOfInts bs
  congr 2
  rw [List.map_flatMap]
  induction l with
  | nil => rfl
  | cons k r ih =>
    rw [List.flatMap_cons, List.flatMap_cons, ih fun y hy => hf y (by simp [hy])]
    congr 1
    obtain ⟨x, rfl⟩ : ∃ x : Nat, k = x := ⟨k.toNat, by have := (hf k (by simp)).1; omega⟩
    rw [Int.toNat_natCast]
    exact beB_bN x n
theorem u8_toNat (n : Nat) : UInt8.ofNat (IntKind.u8.wrap (n : Int)).toNat = UInt8.ofNat (n % 256) := by
  rw [u8_wrap, show ((n : Int) % 256).toNat = n % 256 by omega]
theorem div_pow (x k : Nat) : x / 256 ^ k / 256 = x / 256 ^ (k + 1) := by rw [Nat.div_div_eq_div_mul, Nat.pow_succ]
theorem bytes_len (n : Nat) (l : List Int) : (l.flatMap fun k => bN n k.toNat).length = l.length * n := by
  induction l with
  | nil => simp
  | cons x r ih => rw [List.flatMap_cons, List.length_append, ih, bN_len, List.length_cons]; rw [Nat.add_mul]; omega

theorem refPut_ok (size : Int) (l : List Int) (v : Value) (h : Heap) (hl : Sl cI h v l) (hlen : l.length ≤ 1073741824) (h63 : ∀ k ∈ l, k < 9223372036854775808 ∧ -9223372036854775808 ≤ k) : ACalls Try.prog 29 [.int .i64 size, v] h fun r h' => r = putOut size l ∧ h.Sub h.n h' := by
  refine acalls_of mix Try.func29 k29 n29 (by simp) fun hcl hb => ?_
  have bl := hl.below hcl
  obtain ⟨a, c, rfl⟩ := hl.form
  simp [c29]
  by_cases w1 : size < 1
  · simp [w1, putOut]; exact Heap.Sub.refl hcl
  by_cases w7 : 7 < size
  · simp [w1, w7, putOut]; exact Heap.Sub.refl hcl
  simp [w1, w7]
  obtain ⟨sz, rfl⟩ : ∃ sz : Nat, size = sz := ⟨size.toNat, by omega⟩
  have w : ¬ ((sz : Int) < 1 ∨ 7 < (sz : Int)) := by omega
  have hs7 : sz ≤ 7 := by omega
  refine awp_loop_of (α := Nat) (fun i => i ≤ l.length ∧ ∀ k ∈ l.take i, fits sz k) (fun i => [(0, .int .i64 sz), (1, .slice a l.length c), (6, .string (bs ((l.take i).flatMap fun k => bN sz k.toNat))), (7, .int .i64 i)]) (fun _ => h) (fun i => l.length - i) 0
    ⟨Nat.zero_le _, by simp⟩ (Heap.Sub.refl hcl) (by simp [bs]; exact ⟨.int, bl, .string, .int⟩) ?_
  rintro i ⟨hil, hfit⟩
  by_cases hlt : i < l.length
  · obtain ⟨b1, o1, cs1, m1, e1, rfl, _, g1, g1'⟩ := hl.at hlt
    have hst : l.take (i + 1) = l.take i ++ [l[i]] := List.take_succ_eq_append_getElem hlt
    have h63i := h63 l[i] (List.getElem_mem hlt)
    have badR : ¬ fits sz l[i] → putOut sz l = .tuple #[.string (bs []), .int .i64 2] := fun nf => by
      unfold putOut
      rw [if_neg w, if_neg (fun hall => nf (by simpa using hall l[i] (List.getElem_mem hlt)))]
      rfl
    simp [hlt, aidx_of hlt, g1, apart, g1']
    by_cases hneg : l[i] < 0
    · refine awp_loop_of (α := Unit) (fun _ => True) (fun _ => [(0, .int .i64 sz), (8, .int .i64 l[i]), (10, .int .i64 0)]) (fun _ => h) (fun _ => 0) () trivial (Heap.Sub.refl hcl) (by simp; exact ⟨.int, .int, .int⟩) fun _ _ => ?_
      have q : ¬ (0 : Int) ≤ l[i] := by omega
      have q0 : ¬ l[i] = 0 := by omega
      have hz : 0 < sz := by omega
      rw [badR (fun f => q f.1)]
      simp [hz, q, q0]
      exact ⟨rfl, Heap.Sub.refl hcl⟩
    obtain ⟨x, hx⟩ : ∃ x : Nat, l[i] = x := ⟨l[i].toNat, by omega⟩
    simp [hx]
    refine awp_loop_of (α := Nat) (fun j => j ≤ sz) (fun j => [(0, .int .i64 sz), (1, .slice (some ⟨b1, o1, none⟩) l.length c), (6, .string (bs ((l.take i).flatMap fun k => bN sz k.toNat))), (7, .int .i64 i), (8, .int .i64 ((x / 256 ^ j : Nat) : Int)), (9, .string (bs (bN j x))), (10, .int .i64 j)])
      (fun _ => h) (fun j => sz - j) 0 (Nat.zero_le _) (Heap.Sub.refl hcl) (by simp [bN, bs]; exact ⟨.int, bl, .string, .int, .int, .string, .int⟩) ?_
    rintro j hj
    have hxj : x / 256 ^ j ≤ x := Nat.div_le_self _ _
    have hxl : (x : Int) < 9223372036854775808 := by omega
    by_cases hjlt : j < sz
    · have hy1 := div_pow x j
      have hyl := Nat.div_le_self x (256 ^ (j + 1))
      have hbn : bN (j + 1) x = UInt8.ofNat (x / 256 ^ j % 256) :: bN j x := rfl
      have hcast : ((x : Int) / 256 ^ (j + 1)) = ((x / 256 ^ (j + 1) : Nat) : Int) := by push_cast; rfl
      have hlen1 : 1 + j ≤ 9223372036854775807 := by omega
      generalize hy : x / 256 ^ j = y at *
      have hge : ¬ ((y : Int) < 0) := by omega
      have t1 : (y : Int).tmod 256 = ((y % 256 : Nat) : Int) := by rw [Int.tmod_eq_emod_of_nonneg (by omega)]; omega
      have t2 : (y : Int).tdiv 256 = ((x / 256 ^ (j + 1) : Nat) : Int) := by rw [Int.tdiv_eq_ediv_of_nonneg (by omega), ← hy1]; omega
      have hu : UInt8.ofNat (IntKind.u8.wrap ((y : Int) % 256)).toNat = UInt8.ofNat (y % 256) := by
        rw [u8_wrap, show ((y : Int) % 256 % 256).toNat = y % 256 by omega]
      simp [hjlt, t1, t2, afill, mcells, afirst, Heap.cellsOf, push_m, acut, abytes, bs_lit, bs_append, bs_size, bN_len, hlen1, hu]
      refine ⟨j + 1, by omega, by omega, (Heap.Sub.refl hcl).push hcl _, .int, bl, .string, .int, ⟨?_, .int⟩, ⟨by rw [hbn], .string⟩, ?_, .int⟩
      · rw [hcast, i64_small (by omega) (by omega)]
      · rw [i64_small (by omega) (by omega)]; omega
    · have hje : j = sz := by omega
      subst hje
      by_cases hz : x / 256 ^ j = 0
      · have hfx : fits j l[i] := by rw [hx, fits_lt]; exact (Nat.div_eq_zero_iff_lt (Nat.pow_pos (by omega))).1 hz
        have hl2 : (bs (List.flatMap (fun k => bN j k.toNat) (List.take i l))).size + (bs (bN j x)).size ≤ 9223372036854775807 := by
          rw [bs_size, bs_size, bytes_len, bN_len, List.length_take]
          have : min i l.length * j ≤ 1073741824 * 7 := Nat.mul_le_mul (by omega) hs7
          omega
        rw [hz]
        simp [hl2, bs_append]
        refine ⟨i + 1, by omega, ⟨by omega, ?_⟩, Heap.Sub.refl hcl, .int, bl, ⟨?_, .string⟩, ?_, .int⟩
        · intro k hk
          rw [hst] at hk
          rcases List.mem_append.1 hk with hk | hk
          · exact hfit k hk
          · rw [List.mem_singleton.1 hk]; exact hfx
        · rw [hst, List.flatMap_append, List.flatMap_cons, List.flatMap_nil, List.append_nil, hx]; rfl
        · rw [i64_small (by omega) (by omega)]; omega
      · have hfx : ¬ fits j l[i] := by rw [hx, fits_lt]; intro q; exact hz ((Nat.div_eq_zero_iff_lt (Nat.pow_pos (by omega))).2 q)
        have hz' : ¬ ((x / 256 ^ j : Nat) : Int) = 0 := by omega
        rw [badR hfx]
        generalize x / 256 ^ j = y at *
        simp [hz, hz']
        exact ⟨rfl, Heap.Sub.refl hcl⟩
  · have hie : i = l.length := by omega
    subst hie
    rw [List.take_of_length_le (Nat.le_refl _)] at hfit
    have hout : putOut sz l = .tuple #[.string (bytesOfInts (l.flatMap (beB sz))), .int .i64 0] := by
      unfold putOut
      rw [if_neg w, if_pos (by simpa using hfit)]
      rfl
    simp
    rw [hout, putStr sz l hfit]
    exact ⟨rfl, Heap.Sub.refl hcl⟩
theorem putOut_all {size : Int} {l : List Int} {s : ByteArray} (h : putOut size l = .tuple #[.string s, .int .i64 0]) : (1 ≤ size ∧ size ≤ 7) ∧ (∀ k ∈ l, fits size.toNat k) ∧ s = bytesOfInts (l.flatMap (beB size.toNat)) := by
  unfold putOut at h
  split at h
  · simp at h
  · split at h
    · rename_i h1 h2
      simp only [Value.tuple.injEq, Array.mk.injEq, List.cons.injEq, Value.string.injEq] at h
      exact ⟨by omega, h2, h.1.symm⟩
    · simp at h
theorem tkL_rep : ∀ (k : Nat) (l : List Int) (z : List UInt8), (∀ x ∈ l, fits k x) → tkL ((l.flatMap fun x => bN k x.toNat) ++ z) (List.replicate l.length k) = l
  | _, [], _, _ => rfl
  | k, x :: r, z, h => by
    have hx := h x (by simp)
    have hpos := hx.1
    rw [List.length_cons, List.replicate_succ, tkL, List.flatMap_cons, List.append_assoc, List.take_append_of_le_length (by rw [bN_len]; omega), List.drop_append_of_le_length (by rw [bN_len]; omega),
      List.take_of_length_le (by rw [bN_len]; omega), List.drop_eq_nil_of_le (by rw [bN_len]; omega), List.nil_append, tkL_rep k r z fun y hy => h y (by simp [hy])]
    obtain ⟨m, rfl⟩ : ∃ m : Nat, x = m := ⟨x.toNat, by omega⟩
    rw [Int.toNat_natCast, tk_bN _ _ (fits_lt.1 hx)]
theorem bad_rep {n : Nat} {k : Int} (h : wr k = false) : bad (List.replicate n k) = false := by
  unfold bad
  rw [List.any_eq_false]
  intro x hx
  rw [List.eq_of_mem_replicate hx, h]
  decide
theorem nats_rep (n : Nat) (k : Int) : nats (List.replicate n k) = List.replicate n k.toNat := by simp [nats]
theorem sumN_rep (n k : Nat) : sumN (List.replicate n k) = n * k := by
  induction n with
  | zero => simp [sumN]
  | succ n ih => rw [List.replicate_succ', sumN_app, ih, Nat.add_mul]; omega

theorem puts_ok (size : Int) (l : List Int) (z : List UInt8) (v : Value) (h : Heap) (hl : Sl cI h v l) (h63 : ∀ k ∈ l, k < 9223372036854775808 ∧ -9223372036854775808 ≤ k) :
    ACalls Try.prog 5 [.int .i64 size, v, .string (bs z)] h fun r _ => r = .bool true := by
  refine acalls_of mix Try.func5 k5 n5 (by simp) fun hcl hb => ?_
  have bl := hl.below hcl
  obtain ⟨a, c, rfl⟩ := hl.form
  simp [c5]
  refine (awake_ok _).mono ?_
  rintro v1 h1 ⟨rfl, e⟩
  subst e
  simp [aun]
  by_cases hl100 : 100 < l.length
  · have : (100 : Int) < l.length := by omega
    simp [this]
  have hl100' : ¬ (100 : Int) < l.length := by omega
  by_cases hz300 : 300 < z.length
  · have : (300 : Int) < z.length := by omega
    simp [hl100', bs_size, this]
  have hz300' : ¬ (300 : Int) < z.length := by omega
  simp [hl100', bs_size, hz300']
  refine (put_ok size l _ _ hl (by omega)).mono ?_
  rintro v2 h2 ⟨rfl, e⟩
  subst e
  obtain ⟨s, j, hs⟩ : ∃ s j, putOut size l = .tuple #[.string (bs s), .int .i64 j] := by
    unfold putOut; split
    · exact ⟨[], _, rfl⟩
    · split
      · exact ⟨_, _, by rw [bs_of (bytesOfInts _)]⟩
      · exact ⟨[], _, rfl⟩
  rw [hs]
  simp
  refine (refPut_ok size l _ _ hl (by omega) h63).mono ?_
  rintro v2 h3 ⟨rfl, hsub⟩
  rw [hs]
  simp
  by_cases hj : j = 0
  case neg => simp [hj]
  subst hj
  have hs0 := hs
  obtain ⟨hsz, hfit, hse⟩ := putOut_all hs0
  obtain ⟨sz, rfl⟩ : ∃ sz : Nat, size = sz := ⟨size.toNat, by omega⟩
  rw [Int.toNat_natCast] at hfit hse
  have hwsz : wr sz = false := by unfold wr; simp; omega
  rw [putStr sz l hfit, bs_inj] at hse
  subst hse
  have hlen := bytes_len sz l
  have htk := tkL_rep sz l z hfit
  generalize hB : (List.flatMap (fun k => bN sz k.toNat) l) = B at hs hlen htk ⊢
  have hl3 := hl.keep hsub.sub
  have hcl3 := hsub
  simp
  refine awp_loop_of (α := Nat × Value × Heap) (fun x => x.1 ≤ l.length ∧ Own h2 1 x.1 ((List.replicate x.1 (sz : Int)).map cI) x.2.1 x.2.2)
    (fun x => [(0, .int .i64 sz), (1, .slice a l.length c), (2, .string (bs z)), (7, .string (bs B)), (11, x.2.1), (47, .int .i64 l.length), (48, .int .i64 x.1)]) (fun x => x.2.2) (fun x => l.length - x.1) (0, .slice none 0 0, h2)
    ⟨Nat.zero_le _, by simpa using Own.start h2 1⟩ hsub (by simp; exact ⟨.int, bl, .string, .string, .snil, .int, .int⟩) ?_
  rintro ⟨i, vi, H⟩ ⟨hil, hown⟩
  dsimp only at hil hown
  by_cases hlt : i < l.length
  · obtain ⟨a', cc, rfl, v2, H2, H3, happ, hown3, hn3, hin3⟩ := hown.app (H' := H.push (.cells [cI sz] .ex 1)) (t := 3) (bytes := 8) (k := 1) (new := [cI sz]) hcl
      (by show H.n ≤ H.n + 1; omega) (fun b hb => by rw [push_m, if_neg (by omega)]) (by omega) rfl (by omega)
    have hn1 := hown3.1
    simp [hlt, afill, mcells, alen, afirst, Heap.cellsOf, push_m, acut, happ] at happ ⊢
    refine ⟨i + 1, by omega, v2, H3, ⟨by omega, ?_⟩, ⟨hown3.1, by omega, hin3, hown3.closed hcl ?_⟩, .int, bl.mono hn1, .string, .string, ⟨rfl, hown3.below⟩, .int, ?_, .int⟩
    · rw [List.replicate_succ']; simpa using hown3
    · intro x hx
      rcases List.mem_append.1 hx with hx | hx
      · have := List.eq_of_mem_replicate (by simpa using hx); rw [this]; exact .int
      · rw [List.mem_singleton.1 hx]; exact .int
    · rw [i64_small (by omega) (by omega)]; omega
  · have : i = l.length := by omega
    subst this
    have hlH := hl.keep (hown.sub hcl).sub
    have hss : Sl cI H vi (List.replicate l.length (sz : Int)) := hown.sl
    have hsz2 : B.length + z.length ≤ 9223372036854775807 := by
      rw [hlen]
      have : l.length * sz ≤ 100 * 7 := Nat.mul_le_mul (by omega) (by omega)
      omega
    simp [bs_size, bs_append, hsz2]
    refine (take_ok _ _ _ _ hss (by simp; omega) ?_).mono ?_
    · rw [List.length_append, hlen]
      have : l.length * sz ≤ 100 * 7 := Nat.mul_le_mul (by omega) (by omega)
      omega
    rintro v3 h4 ⟨⟨o, rfl, hso⟩, hsub4⟩
    have hR : takeR (B ++ z) (List.replicate l.length (sz : Int)) = (l, 0) := by
      unfold takeR
      rw [if_neg (by rw [bad_rep hwsz]; decide), nats_rep, sumN_rep, Int.toNat_natCast, if_neg (by rw [List.length_append, hlen]; omega), htk]
    rw [hR] at hso ⊢
    simp
    refine (same_ok l l _ _ _ hso (hlH.keep hsub4.sub) (by omega)).mono ?_
    rintro v5 h5 ⟨rfl, e⟩
    subst e
    simp
    refine (size_ok _ _ _ (hss.keep hsub4.sub) (by simp; omega)).mono ?_
    rintro v5 h6 ⟨rfl, e⟩
    subst e
    rw [bad_rep hwsz]
    have hsum := sum_nats _ (List.replicate l.length (sz : Int)) rfl (not_bad (bad_rep hwsz))
    rw [nats_rep, sumN_rep, Int.toNat_natCast] at hsum
    simp [bs_size, hlen, hsum]
theorem cellsOf_push {h : Heap} (hc : h.Closed) {o : AObj} {b : Nat} {x} (e : h.cellsOf b = some x) : (h.push o).cellsOf b = some x :=
  cellsOf_keep (fun b o e => by rw [push_m, if_neg (by have := (hc b o e).1; omega)]; exact e) e
theorem abounds_both {L i j : Nat} (h1 : i ≤ j) (h2 : j ≤ L) : abounds L L (some (.int .i64 (i : Int))) (some (.int .i64 (j : Int))) none = some (i, j, L) := by
  have e1 : abound (.int .i64 (j : Int)) L = some j := by unfold abound; simp only; rw [if_pos ⟨by omega, by omega⟩]; rfl
  have e2 : abound (.int .i64 (i : Int)) j = some i := by unfold abound; simp only; rw [if_pos ⟨by omega, by omega⟩]; rfl
  simp [abounds, e1, e2]

theorem takes_ok (b : List UInt8) (sz : List Int) (v : Value) (h : Heap) (hl : Sl cI h v sz) :
    ACalls Try.prog 6 [.string (bs b), v] h fun r _ => r = .bool true := by
  refine acalls_of mix Try.func6 k6 n6 (by simp) fun hcl hb => ?_
  have bl := hl.below hcl
  obtain ⟨a, c, rfl⟩ := hl.form
  simp [c6]
  refine (awake_ok _).mono ?_
  rintro v1 h1 ⟨rfl, e⟩
  subst e
  simp [aun, bs_size]
  by_cases h300 : 300 < b.length
  · have : (300 : Int) < b.length := by omega
    simp [this]
  have h300' : ¬ (300 : Int) < b.length := by omega
  by_cases h100 : 100 < sz.length
  · have : (100 : Int) < sz.length := by omega
    simp [h300', this]
  have h100' : ¬ (100 : Int) < sz.length := by omega
  simp [h300', h100']
  refine (take_ok b sz _ _ hl (by omega) (by omega)).mono ?_
  rintro v2 h2 ⟨⟨o1, rfl, s1⟩, sub1⟩
  obtain ⟨L, E, hR⟩ : ∃ L E, takeR b sz = (L, E) := ⟨_, _, rfl⟩
  replace s1 : Sl cI h2 o1 L := by rw [hR] at s1; exact s1
  rw [hR]
  simp
  have hl2 := hl.keep sub1.sub
  refine (refTake_ok b sz _ _ hl2 (by omega) (by omega)).mono' ?_
  rintro v3 h3 hcl3 _ ⟨⟨o2, rfl, s2⟩, sub2⟩
  replace s2 : Sl cI h3 o2 L := by rw [hR] at s2; exact s2
  rw [hR]
  simp
  have s1' := s1.keep sub2.sub
  have hl3 := hl2.keep sub2.sub
  have hlen : L.length ≤ 100 := by
    unfold takeR at hR
    split at hR
    · cases hR; simp
    · split at hR
      · cases hR; simp
      · cases hR; rw [tkL_len]; simp [nats]; omega
  refine (same_ok L L _ _ _ s1' s2 (by omega)).mono ?_
  rintro v4 h4 ⟨rfl, e⟩
  subst e
  simp [aun]
  obtain ⟨a1, c1, rfl⟩ := s1'.form
  have sub := (sub1.trans (sub2.weak sub1.hi))
  simp
  by_cases hgood : bad sz = false ∧ ¬ b.length < sumN (nats sz)
  case neg =>
    have hR2 : L = [] ∧ E ≠ 0 := by
      unfold takeR at hR
      split at hR
      · cases hR; exact ⟨rfl, by decide⟩
      · split at hR
        · cases hR; exact ⟨rfl, by decide⟩
        · rename_i q1 q2; exact absurd ⟨by simpa using q1, q2⟩ hgood
    obtain ⟨rfl, hE⟩ := hR2
    refine awp_loop_of (α := Unit) (fun _ => True) (fun _ => [(8, .int .i64 E), (45, .int .i64 0), (46, .int .i64 0)]) (fun _ => h1) (fun _ => 0) () trivial sub (by simp; exact ⟨.int, .int⟩) fun _ _ => ?_
    simp [hE]
  obtain ⟨hbad, hlong⟩ := hgood
  have hwr := not_bad hbad
  have hLE : L = tkL b (nats sz) ∧ E = 0 := by
    unfold takeR at hR
    rw [if_neg (by rw [hbad]; decide), if_neg hlong] at hR
    cases hR; exact ⟨rfl, rfl⟩
  obtain ⟨hL, rfl⟩ := hLE
  have hnl : (nats sz).length = sz.length := by simp [nats]
  have hLl : L.length = sz.length := by rw [hL, tkL_len, hnl]
  have hb3 := hl3.below hcl3
  have hb1 := s1'.below hcl3
  subst hL
  have hle4 : h1.n ≤ h4.n := Nat.le_trans sub1.hi sub2.hi
  refine awp_loop_of (α := Nat) (fun i => i ≤ sz.length) (fun i => [(0, .string (bs b)), (1, .slice a sz.length c), (5, .slice a1 (tkL b (nats sz)).length c1), (8, .int .i64 0), (9, .int .i64 ((sumN ((nats sz).take i) : Nat) : Int)), (45, .int .i64 (tkL b (nats sz)).length), (46, .int .i64 i)])
    (fun _ => h4) (fun i => sz.length - i) 0 (Nat.zero_le _) ⟨hle4, Nat.le_refl _, fun _ _ e => e, hcl3⟩ (by simp [sumN]; exact ⟨.string, hb3, hb1, .int, .int, .int⟩) ?_
  rintro i hi
  by_cases hlt : i < sz.length
  · have hltn : i < (nats sz).length := by omega
    obtain ⟨b1, o1, cs1, m1, e1, rfl, _, g1, g1'⟩ := hl3.at hlt
    obtain ⟨b2, o2, cs2, m2, e2, rfl, _, g2, g2'⟩ := s1'.at (i := i) (by omega)
    rw [tkL_get b (nats sz) i hltn] at g2'
    have hw := hwr sz[i] (List.getElem_mem hlt)
    have hw2 := hw
    unfold wr at hw2
    simp only [Bool.or_eq_false_iff, decide_eq_false_iff_not] at hw2
    obtain ⟨k, hk⟩ : ∃ k : Nat, sz[i] = k := ⟨sz[i].toNat, by omega⟩
    have hki : (nats sz)[i]'hltn = k := by simp [nats, hk]
    have hle := sumN_le (nats sz) i hltn
    rw [hki] at hle g2'
    have hnext : sumN (List.take (i + 1) (nats sz)) = sumN (List.take i (nats sz)) + k := by
      rw [List.take_succ_eq_append_getElem hltn, sumN_app, hki]
    generalize hA : sumN (List.take i (nats sz)) = A at hle hnext g2' ⊢
    have hlc : (List.take k (List.drop A b)).length = k := by rw [List.length_take, List.length_drop]; omega
    have hlt2 : i < (tkL b (nats sz)).length := by omega
    generalize hT : List.take k (List.drop A b) = T at hlc g2'
    have hTd : List.drop A (List.take (A + k) b) = T := by rw [← hT, List.drop_take, Nat.add_sub_cancel_left]
    have hbN := bN_tk k T hlc
    have hp : putOut (k : Int) [(tkN T : Int)] = .tuple #[.string (bs T), .int .i64 0] := by
      unfold putOut
      rw [if_neg (by omega), Int.toNat_natCast, if_pos (by simpa using fits_lt.2 (by have := tkN_lt k T hlc; exact this)), str_be, hbN]
      rfl
    have g1P := cellsOf_push hcl3 (o := .cells [cI (tkN T)] .ex 1) g1
    simp [hlt2, aidx_of hlt, aidx_of hlt2, g1, g2, apart, g1', g2', hk, afill, mcells, g1P]
    refine (put_ok (k : Int) [(tkN T : Int)] _ _ (sl_one (by simp [Heap.cellsOf, push_m])) (by simp)).mono ?_
    rintro v5 h5 ⟨rfl, e⟩
    subst e
    rw [hp]
    have hAk : IntKind.i64.wrap ((A : Int) + k) = ((A + k : Nat) : Int) := by rw [i64_small (by omega) (by omega)]; omega
    have hab : abounds b.length b.length (some (.int .i64 (A : Int))) (some (.int .i64 ((A : Int) + k))) none = some (A, A + k, b.length) := by
      have := abounds_both (L := b.length) (i := A) (j := A + k) (by omega) (by omega)
      simpa using this
    simp [aidx_of hlt, g1P, apart, g1', hk, hAk, bs_size, hab, bs_extract, hTd]
    refine ⟨i + 1, by omega, by omega, ⟨hle4, Nat.le_succ _, fun x o e => ?_, hcl3⟩, .string, hb3, hb1, .int, ⟨by rw [hnext]; omega, .int⟩, .int, ?_, .int⟩
    · rw [push_m, if_neg (by have := (hcl3 x o e).1; omega)]; exact e
    · rw [i64_small (by omega) (by omega)]; omega
  · have : i = sz.length := by omega
    subst this
    simp [tkL_len, hnl]
    refine (size_ok sz _ _ hl3 (by omega)).mono ?_
    rintro v5 h6 ⟨rfl, e⟩
    subst e
    have hsum := sum_nats _ sz rfl hwr
    rw [hbad]
    rw [List.take_of_length_le (by omega)]
    simp [hsum]
end Go.Proofs.Ythhhcpbkedikfaa.num
