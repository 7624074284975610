/-
  NumOrder: the walk through num.wrong, num.Put, awake01 and the law itself; bytes and their order; the row.
-/
import Derived.Test.YtgmmlijdmocneaaAbStep
import Derived.IntWalk
import Derived.Test.YtgmmlijdmocneaaBegun
import Derived.KernelRfl
import Derived.ProofKit
import Derived.OpenShut
import Derived.ShutString
import Derived.ChangeOld
import Derived.SizedLaws
set_option linter.unusedSimpArgs false
set_option linter.unusedVariables false
namespace Go.Proofs.Ytgmmlijdmocneaa.numOrder
open Go Go.Ab Go.Proofs Go.RowKit Go.ChangeShapes Go.WideShapes Go.ChangeAt
set_option maxRecDepth 100000
attribute [local simp] s_ops s_seq s_cond s_cond_t s_cond_f s_block s_exit s_ret s_skip s_then_n s_then_n' s_then_e s_then_e' s_then_r s_then_r' s_block_n s_block_r s_block_e s_post_r s_post_n s_res0 s_res1 s_res2 s_res3 s_res4 s_nil s_cons s_guard s_guard_tt s_guard_ff s_guard_tf s_guard_ft s_guard_u s_call s_kL s_put s_put0 s_set s_tmp s_const s_func s_init s_mkF s_mkF0 s_mv s_bin s_pick s_op aop oK_some oK_none bK_some bK_none b_add b_sub b_mul b_quo b_rem b_and b_or b_xor b_andNot b_shl b_shr b_eql b_neq b_lss b_leq b_gtr b_geq b_sadd b_seql b_sneq b_slss b_sleq b_sgtr b_sgeq
def c98 : AC := .seq (.ops [⟨ some 2, none, .mv (.const (.bool false)) ⟩]) (.seq (.ops [⟨ some 3, none, .mv (.tmp 0) ⟩, ⟨ some 4, none, .bin .lss (.tmp 3) (.const (.int .i64 1)) ⟩, ⟨ some 5, none, .mv (.tmp 4) ⟩, ⟨ some 6, some (5, false), .mv (.tmp 0) ⟩, ⟨ some 7, some (5, false), .bin .gtr (.tmp 6) (.const (.int .i64 7)) ⟩, ⟨ some 8, none, .pick (.tmp 5) (.const (.bool true)) (.tmp 7) ⟩, ⟨ some 2, none, .mv (.tmp 8) ⟩]) .ret)
theorem k98 : compF Try.prog Try.f98 = some (c98, [2]) := by kernel_rfl
theorem n98 : Try.f98.ntmps = 9 := by kernel_rfl
def c24 : AC := .seq (.ops [⟨ some 4, none, .mv (.const (.string ⟨ ⟨[] ⟩ ⟩)) ⟩, ⟨ some 5, none, .mv (.const (.int .i64 0)) ⟩]) (.seq (.seq (.ops [⟨ some 10, none, .mv (.tmp 0) ⟩, ⟨ some 11, none, .call 98 [.tmp 10] ⟩]) (.cond (.tmp 11) (.seq (.ops [⟨ some 4, none, .mv (.const (.string ⟨ ⟨[] ⟩ ⟩)) ⟩, ⟨ some 5, none, .mv (.const (.int .i64 1)) ⟩]) .ret) .skip)) (.seq (.ops [⟨ some 6, none, .mv (.const (.slice none 0 0)) ⟩]) (.seq (.seq (.ops [⟨ some 12, none, .mv (.tmp 1) ⟩, ⟨ some 13, none, .lenS false (.tmp 12) ⟩, ⟨ some 14, none, .mv (.const (.int .i64 0)) ⟩]) (.block 0 (.loop (.seq (.ops [⟨ some 15, none, .bin .lss (.tmp 14) (.tmp 13) ⟩]) (.seq (.cond (.tmp 15) .skip (.exit 0)) (.seq (.block 1 (.seq (.ops [⟨ some 16, none, .iAddrS 1 (.tmp 12) (.tmp 14) ⟩, ⟨ some 17, none, .load none (.tmp 16) ⟩, ⟨ some 8, none, .mv (.tmp 17) ⟩]) (.seq (.seq (.ops [⟨ some 18, none, .mv (.tmp 8) ⟩, ⟨ some 19, none, .bin .lss (.tmp 18) (.const (.int .i64 0)) ⟩, ⟨ some 20, none, .mv (.tmp 19) ⟩, ⟨ some 21, some (20, false), .mv (.tmp 8) ⟩, ⟨ some 22, some (20, false), .mv (.tmp 0) ⟩, ⟨ some 23, some (20, false), .bin .mul (.const (.int .i64 8)) (.tmp 22) ⟩, ⟨ some 24, some (20, false), .bin .shr (.tmp 21) (.tmp 23) ⟩, ⟨ some 25, some (20, false), .bin .neq (.tmp 24) (.const (.int .i64 0)) ⟩, ⟨ some 26, none, .pick (.tmp 20) (.const (.bool true)) (.tmp 25) ⟩]) (.cond (.tmp 26) (.seq (.ops [⟨ some 4, none, .mv (.const (.string ⟨ ⟨[] ⟩ ⟩)) ⟩, ⟨ some 5, none, .mv (.const (.int .i64 2)) ⟩]) .ret) .skip)) (.seq (.ops [⟨ some 27, none, .mv (.tmp 0) ⟩, ⟨ some 28, none, .mv (.const (.int .i64 0)) ⟩]) (.block 2 (.loop (.seq (.ops [⟨ some 29, none, .bin .lss (.tmp 28) (.tmp 27) ⟩]) (.seq (.cond (.tmp 29) .skip (.exit 2)) (.seq (.block 3 (.seq (.ops [⟨ some 30, none, .mv (.tmp 28) ⟩, ⟨ some 9, none, .mv (.tmp 30) ⟩]) (.ops [⟨ some 31, none, .mv (.tmp 6) ⟩, ⟨ some 32, none, .mv (.tmp 8) ⟩, ⟨ some 33, none, .mv (.tmp 0) ⟩, ⟨ some 34, none, .bin .sub (.tmp 33) (.const (.int .i64 1)) ⟩, ⟨ some 35, none, .mv (.tmp 9) ⟩, ⟨ some 36, none, .bin .sub (.tmp 34) (.tmp 35) ⟩, ⟨ some 37, none, .bin .mul (.const (.int .i64 8)) (.tmp 36) ⟩, ⟨ some 38, none, .bin .shr (.tmp 32) (.tmp 37) ⟩, ⟨ some 39, none, .toInt .u8 (.tmp 38) ⟩, ⟨ some 40, none, .buildS 1 [.int .u8 0] [(0, 1, .tmp 39)] ⟩, ⟨ some 41, none, .app 1 1 [.int .u8 0] (.tmp 31) (.tmp 40) ⟩, ⟨ some 6, none, .mv (.tmp 41) ⟩]))) (.ops [⟨ some 42, none, .bin .add (.tmp 28) (.const (.int .i64 1)) ⟩, ⟨ some 28, none, .mv (.tmp 42) ⟩])))))))))) (.ops [⟨ some 43, none, .bin .add (.tmp 14) (.const (.int .i64 1)) ⟩, ⟨ some 14, none, .mv (.tmp 43) ⟩]))))))) (.seq (.ops [⟨ some 44, none, .mv (.tmp 6) ⟩, ⟨ some 45, none, .toStr (.tmp 44) ⟩, ⟨ some 4, none, .mv (.tmp 45) ⟩, ⟨ some 5, none, .mv (.const (.int .i64 0)) ⟩]) .ret))))
theorem k24 : compF Try.prog Try.f24 = some (c24, [4, 5]) := by kernel_rfl
theorem n24 : Try.f24.ntmps = 46 := by kernel_rfl
def c23 : AC := .seq (.ops [⟨ some 0, none, .mv (.const (.bool false)) ⟩]) (.seq (.ops [⟨ some 4, none, .buildS 2 [.int .i64 0, .int .i64 0] [(0, 1, .const (.int .i64 1)), (1, 1, .const (.int .i64 256))] ⟩, ⟨ some 5, none, .call 24 [.const (.int .i64 2), .tmp 4] ⟩, ⟨ some 3, none, .mv (.tmp 5) ⟩, ⟨ some 6, none, .extr (.tmp 3) 0 ⟩, ⟨ some 7, none, .extr (.tmp 3) 1 ⟩, ⟨ some 1, none, .mv (.tmp 6) ⟩, ⟨ some 2, none, .mv (.tmp 7) ⟩]) (.seq (.ops [⟨ some 8, none, .mv (.tmp 2) ⟩, ⟨ some 9, none, .bin .eql (.tmp 8) (.const (.int .i64 0)) ⟩, ⟨ some 10, none, .mv (.tmp 9) ⟩, ⟨ some 11, some (10, true), .mv (.tmp 1) ⟩, ⟨ some 12, some (10, true), .bin .eql (.tmp 11) (.const (.string ⟨ ⟨[0, 1, 1, 0] ⟩ ⟩)) ⟩, ⟨ some 13, none, .pick (.tmp 10) (.tmp 12) (.const (.bool false)) ⟩, ⟨ some 0, none, .mv (.tmp 13) ⟩]) .ret))
theorem k23 : compF Try.prog Try.f23 = some (c23, [0]) := by kernel_rfl
theorem n23 : Try.f23.ntmps = 14 := by kernel_rfl
def c3 : AC := .seq (.ops [⟨ some 6, none, .mv (.const (.bool false)) ⟩]) (.seq (.seq (.ops [⟨ some 11, none, .call 23 [] ⟩, ⟨ some 12, none, .un .not (.tmp 11) ⟩]) (.cond (.tmp 12) (.seq (.ops [⟨ some 6, none, .mv (.const (.bool false)) ⟩]) .ret) .skip)) (.seq (.ops [⟨ some 14, none, .mv (.tmp 0) ⟩, ⟨ some 15, none, .mv (.tmp 1) ⟩, ⟨ some 16, none, .buildS 1 [.int .i64 0] [(0, 1, .tmp 15)] ⟩, ⟨ some 17, none, .call 24 [.tmp 14, .tmp 16] ⟩, ⟨ some 13, none, .mv (.tmp 17) ⟩, ⟨ some 18, none, .extr (.tmp 13) 0 ⟩, ⟨ some 19, none, .extr (.tmp 13) 1 ⟩, ⟨ some 7, none, .mv (.tmp 18) ⟩, ⟨ some 8, none, .mv (.tmp 19) ⟩]) (.seq (.ops [⟨ some 21, none, .mv (.tmp 0) ⟩, ⟨ some 22, none, .mv (.tmp 2) ⟩, ⟨ some 23, none, .buildS 1 [.int .i64 0] [(0, 1, .tmp 22)] ⟩, ⟨ some 24, none, .call 24 [.tmp 21, .tmp 23] ⟩, ⟨ some 20, none, .mv (.tmp 24) ⟩, ⟨ some 25, none, .extr (.tmp 20) 0 ⟩, ⟨ some 26, none, .extr (.tmp 20) 1 ⟩, ⟨ some 9, none, .mv (.tmp 25) ⟩, ⟨ some 10, none, .mv (.tmp 26) ⟩]) (.seq (.seq (.ops [⟨ some 27, none, .mv (.tmp 8) ⟩, ⟨ some 28, none, .bin .neq (.tmp 27) (.const (.int .i64 0)) ⟩, ⟨ some 29, none, .mv (.tmp 28) ⟩, ⟨ some 30, some (29, false), .mv (.tmp 10) ⟩, ⟨ some 31, some (29, false), .bin .neq (.tmp 30) (.const (.int .i64 0)) ⟩, ⟨ some 32, none, .pick (.tmp 29) (.const (.bool true)) (.tmp 31) ⟩]) (.cond (.tmp 32) (.seq (.ops [⟨ some 6, none, .mv (.const (.bool true)) ⟩]) .ret) .skip)) (.seq (.ops [⟨ some 33, none, .mv (.tmp 1) ⟩, ⟨ some 34, none, .mv (.tmp 2) ⟩, ⟨ some 35, none, .bin .lss (.tmp 33) (.tmp 34) ⟩, ⟨ some 36, none, .mv (.tmp 7) ⟩, ⟨ some 37, none, .mv (.tmp 9) ⟩, ⟨ some 38, none, .bin .lss (.tmp 36) (.tmp 37) ⟩, ⟨ some 39, none, .eqv false .bool (.tmp 35) (.tmp 38) ⟩, ⟨ some 40, none, .mv (.tmp 39) ⟩, ⟨ some 41, some (40, true), .mv (.tmp 1) ⟩, ⟨ some 42, some (40, true), .mv (.tmp 2) ⟩, ⟨ some 43, some (40, true), .bin .eql (.tmp 41) (.tmp 42) ⟩, ⟨ some 44, some (40, true), .mv (.tmp 7) ⟩, ⟨ some 45, some (40, true), .mv (.tmp 9) ⟩, ⟨ some 46, some (40, true), .bin .eql (.tmp 44) (.tmp 45) ⟩, ⟨ some 47, some (40, true), .eqv false .bool (.tmp 43) (.tmp 46) ⟩, ⟨ some 48, none, .pick (.tmp 40) (.tmp 47) (.const (.bool false)) ⟩, ⟨ some 49, none, .mv (.tmp 48) ⟩, ⟨ some 50, some (49, true), .mv (.tmp 7) ⟩, ⟨ some 51, some (49, true), .lenS true (.tmp 50) ⟩, ⟨ some 52, some (49, true), .mv (.tmp 0) ⟩, ⟨ some 53, some (49, true), .bin .eql (.tmp 51) (.tmp 52) ⟩, ⟨ some 54, none, .pick (.tmp 49) (.tmp 53) (.const (.bool false)) ⟩, ⟨ some 55, none, .mv (.tmp 54) ⟩, ⟨ some 56, some (55, true), .mv (.tmp 9) ⟩, ⟨ some 57, some (55, true), .lenS true (.tmp 56) ⟩, ⟨ some 58, some (55, true), .mv (.tmp 0) ⟩, ⟨ some 59, some (55, true), .bin .eql (.tmp 57) (.tmp 58) ⟩, ⟨ some 60, none, .pick (.tmp 55) (.tmp 59) (.const (.bool false)) ⟩, ⟨ some 6, none, .mv (.tmp 60) ⟩]) .ret)))))
theorem k3 : compF Try.prog Try.f3 = some (c3, [6]) := by kernel_rfl
theorem n3 : Try.f3.ntmps = 61 := by kernel_rfl
theorem wrong_ok (n : Int) (h : Heap) : ACalls Try.prog 98 [.int .i64 n] h fun v h' => v = .bool (decide (n < 1) || decide (7 < n)) ∧ h' = h := by
  refine acalls_of Try.func98 k98 n98 (by simp) fun hcl hb => ?_
  simp [c98]
  by_cases h1 : n < 1
  · simp [h1]
  · simp [h1]


/-- a number's bytes, the greatest first -/
def beB (size : Nat) (k : Int) : List Int := (List.range size).map fun i => IntKind.u8.wrap (k.fdiv (2 ^ (8 * (size - 1 - i))))
def fits (size : Nat) (k : Int) : Prop := 0 ≤ k ∧ k.fdiv (2 ^ (8 * size)) = 0
instance (size : Nat) (k : Int) : Decidable (fits size k) := inferInstanceAs (Decidable (_ ∧ _))
def cU8 (x : Int) : Value := .int .u8 x
def bytesOfInts (l : List Int) : ByteArray := ⟨(l.map fun n => UInt8.ofNat n.toNat).toArray⟩
theorem beB_len (size : Nat) (k : Int) : (beB size k).length = size := by simp [beB]
theorem beB_take (size j : Nat) (k : Int) (h : j < size) : (beB size k).take (j + 1) = (beB size k).take j ++ [IntKind.u8.wrap (k.fdiv (2 ^ (8 * (size - 1 - j))))] := by
  rw [List.take_succ_eq_append_getElem (by rw [beB_len]; exact h)]
  simp [beB]
theorem ints_below {n : Nat} {l : List Int} : ∀ x ∈ l.map cU8, VBelow n x := fun x hx => by obtain ⟨y, _, rfl⟩ := List.mem_map.1 hx; exact .int
theorem abytes_ints : ∀ l : List Int, abytes (l.map cU8) = some (l.map fun n => UInt8.ofNat n.toNat)
  | [] => rfl
  | x :: r => by
    show (abytes (r.map cU8)).map _ = _
    rw [abytes_ints r]
    rfl
/-- what num.Put answers -/
def putOut (size : Int) (l : List Int) : Value :=
  if size < 1 ∨ 7 < size then .tuple #[.string ⟨#[]⟩, .int .i64 1]
  else if ∀ k ∈ l, fits size.toNat k then .tuple #[.string (bytesOfInts (l.flatMap (beB size.toNat))), .int .i64 0]
  else .tuple #[.string ⟨#[]⟩, .int .i64 2]

theorem put_ok (size : Int) (l : List Int) (v : Value) (h : Heap) (hl : Sl (.int .i64) h v l) (hlen : l.length ≤ 68719476736) : ACalls Try.prog 24 [.int .i64 size, v] h fun r h' => r = putOut size l ∧ h' = h := by
  refine ACalls.drop (R := fun r h' => r = putOut size l ∧ h.Sub h.n h') ?_ fun v h' hh => ⟨h, hh.2, by rw [hh.1]; unfold putOut; split <;> (try split) <;> exact vb_tuple2 .string .int, hh.1, rfl⟩
  refine acalls_of Try.func24 k24 n24 (by simp) fun hcl hb => ?_
  simp [c24]
  refine (wrong_ok _ _).mono ?_
  rintro v1 h1 ⟨rfl, e⟩
  subst e
  by_cases w : size < 1 ∨ 7 < size
  · have w1 : (decide (size < 1) || decide (7 < size)) = true := by simpa using w
    simp [w1, putOut, w]
    exact Heap.Sub.refl hcl
  have w1 : (decide (size < 1) || decide (7 < size)) = false := by simpa using w
  simp [w1]
  obtain ⟨sz, rfl⟩ : ∃ sz : Nat, size = sz := ⟨size.toNat, by omega⟩
  have hs1 : 1 ≤ sz := by omega
  have hs7 : sz ≤ 7 := by omega
  have hfr : ∀ (h2 : Heap), h1.n ≤ h2.n → (∀ b, b < h1.n → h2.m b = h1.m b) → h1.Sub h1.n h2 := fun h2 hn hm => ⟨Nat.le_refl _, hn, fun b o e => by rw [hm b (hcl b o e).1]; exact e, hcl⟩
  rcases hl with ⟨c, rfl, rfl⟩ | ⟨b, o, cap, c, m, e, rfl, hc, hcap, hol, hget⟩
  · simp
    refine awp_loop_of (α := Unit) (fun _ => True) (fun _ => [(6, .slice none 0 0), (13, .int .i64 0), (14, .int .i64 0)]) (fun _ => h1) (fun _ => 0) () trivial (Heap.Sub.refl hcl) (by simp; exact ⟨VBelow.snil, VBelow.int⟩) fun _ _ => ?_
    simp [putOut, w]
    exact ⟨rfl, Heap.Sub.refl hcl⟩
  simp
  have hbn : b < h1.n := by
    unfold Heap.cellsOf at hc
    split at hc
    · rename_i hm; exact (hcl b _ hm).1
    · cases hc
  refine awp_loop_of (α := Nat × Value × Heap) (fun x => x.1 ≤ l.length ∧ (∀ k ∈ l.take x.1, fits sz k) ∧ Own h1 1 (x.1 * sz) (((l.take x.1).flatMap (beB sz)).map cU8) x.2.1 x.2.2)
    (fun x => [(0, .int .i64 sz), (6, x.2.1), (12, .slice (some ⟨b, o, none⟩) l.length cap), (13, .int .i64 l.length), (14, .int .i64 x.1)]) (fun x => x.2.2) (fun x => l.length - x.1) (0, .slice none 0 0, h1)
    ⟨Nat.zero_le _, by simp, by simpa using Own.start h1 1⟩ (Heap.Sub.refl hcl) (by simp; exact ⟨.int, .snil, .slice hbn, .int, .int⟩) ?_
  rintro ⟨i, vi, hi⟩ ⟨hil, hfit, hown⟩
  dsimp only at hil hfit hown
  have cap1 : (1 : Nat) ≤ 1 := Nat.le_refl _
  have hci : hi.cellsOf b = some (c, m, e) := by unfold Heap.cellsOf; rw [hown.old hbn]; exact hc
  by_cases hlt : i < l.length
  · have g0 := hget i hlt
    have w8 : IntKind.i64.wrap (8 * (sz : Int)) = 8 * sz := IntWalk.i64_in _ (by omega)
    have p8 : (0 : Int) ≤ 8 * sz := by omega
    have m8 : min ((8 * (sz : Int)).toNat) 64 = 8 * sz := by omega
    have hsub : h1.Sub h1.n hi := hfr hi hown.1 fun b' hb' => hown.old hb'
    have bad : ¬ fits sz l[i] → putOut sz l = .tuple #[.string ⟨#[]⟩, .int .i64 2] := fun nf => by
      unfold putOut
      rw [if_neg w, if_neg (fun hall => nf (by simpa using hall l[i] (List.getElem_mem hlt)))]
    by_cases hneg : l[i] < 0
    · simp [hlt, aidx_of hlt, hci, apart, g0, hneg]
      exact ⟨(bad fun q => absurd q.1 (by omega)).symm, hsub⟩
    have hpos : 0 ≤ l[i] := by omega
    by_cases hsm : l[i].fdiv (2 ^ (8 * sz)) = 0
    case neg =>
      simp [hlt, aidx_of hlt, hci, apart, g0, hneg, w8, p8, show IntKind.i64.bits = 64 from rfl, m8, hsm]
      exact ⟨(bad fun q => hsm q.2).symm, hsub⟩
    simp [hlt, aidx_of hlt, hci, apart, g0, hneg, w8, p8, show IntKind.i64.bits = 64 from rfl, m8, hsm]
    have hvl : VBelow hi.n vi := hown.below
    have hcli : hi.Closed := hown.closed hcl (fun x hx => by obtain ⟨y, _, rfl⟩ := List.mem_map.1 hx; exact .int)
    have hn1 := hown.1
    refine awp_loop_of (α := Nat × Value × Heap) (fun x => x.1 ≤ sz ∧ Own h1 1 (i * sz + x.1) (((l.take i).flatMap (beB sz) ++ (beB sz l[i]).take x.1).map cU8) x.2.1 x.2.2)
      (fun x => [(0, .int .i64 sz), (6, x.2.1), (8, .int .i64 l[i]), (12, .slice (some ⟨b, o, none⟩) l.length cap), (13, .int .i64 l.length), (14, .int .i64 i), (27, .int .i64 sz), (28, .int .i64 x.1)]) (fun x => x.2.2) (fun x => sz - x.1) (0, vi, hi)
      ⟨Nat.zero_le _, by simpa using hown⟩ ⟨hown.1, Nat.le_refl _, fun _ _ e => e, hcli⟩ (by simp; exact ⟨.int, hvl, .int, vb_slice (by omega), .int, .int, .int, .int⟩) ?_
    rintro ⟨j, vj, hj⟩ ⟨hjl, hownj⟩
    dsimp only at hjl hownj
    by_cases hjlt : j < sz
    · have q1 : IntKind.i64.wrap ((sz : Int) - 1) = sz - 1 := IntWalk.i64_in _ (by omega)
      have q2 : IntKind.i64.wrap ((sz : Int) - 1 - j) = sz - 1 - j := IntWalk.i64_in _ (by omega)
      have q3 : IntKind.i64.wrap (8 * ((sz : Int) - 1 - j)) = 8 * (sz - 1 - j) := IntWalk.i64_in _ (by omega)
      have q4 : (0 : Int) ≤ 8 * (sz - 1 - j) := by omega
      have q5 : min ((8 * ((sz : Int) - 1 - j)).toNat) 64 = 8 * (sz - 1 - j) := by omega
      have q6 : IntKind.i64.wrap ((j : Int) + 1) = ((j + 1 : Nat) : Int) := by rw [IntWalk.i64_in _ (by omega)]; omega
      obtain ⟨a, cc, rfl, v2, H2, H3, happ, hown3, hn3, hin3⟩ := hownj.app (H' := hj.push (.cells [cU8 (IntKind.u8.wrap (l[i].fdiv (2 ^ (8 * (sz - 1 - j)))))] .ex 1)) (bytes := 1) (k := 1) (new := [cU8 (IntKind.u8.wrap (l[i].fdiv (2 ^ (8 * (sz - 1 - j)))))]) hcl (by simp) (fun b hb => by rw [push_m, if_neg (by omega)]) (by omega) rfl (by
        have : i * sz ≤ l.length * 7 := Nat.mul_le_mul hil hs7
        omega)
      simp [hjlt, q1, q2, q3, q4, q5, show IntKind.i64.bits = 64 from rfl, afill, mcells, alen, afirst, Heap.cellsOf, push_m, acut, happ, cU8] at happ ⊢
      refine ⟨j + 1, by omega, v2, H3, ⟨by omega, ?_⟩, ⟨hown3.1, by omega, hin3, hown3.closed hcl ?_⟩, .int, ⟨rfl, hown3.below⟩, .int, vb_slice (by have := hown3.1; omega), .int, .int, .int, q6, .int⟩
      · rw [← List.map_take, beB_take sz j _ hjlt]
        simpa [cU8, Nat.add_assoc] using hown3
      · intro x hx
        rcases List.mem_append.1 hx with hx | hx
        · exact ints_below x hx
        · rw [List.mem_singleton.1 hx]; exact .int
    · have hj1 : j = sz := by omega
      subst hj1
      simp
      rw [show (beB j l[i]).take j = beB j l[i] from List.take_of_length_le (Nat.le_of_eq (beB_len _ _))] at hownj
      refine ⟨i + 1, by omega, vj, hj, ⟨by omega, ?_, ?_⟩, ⟨hownj.1, Nat.le_refl _, fun _ _ e => e, hownj.closed hcl ints_below⟩, .int, ⟨rfl, hownj.below⟩, vb_slice (by have := hownj.1; omega), .int, by rw [IntWalk.i64_in _ (by omega)]; omega, .int⟩
      · intro k hk
        rw [List.take_succ_eq_append_getElem hlt] at hk
        rcases List.mem_append.1 hk with hk | hk
        · exact hfit k hk
        · rw [List.mem_singleton.1 hk]; exact ⟨hpos, hsm⟩
      · rw [List.take_succ_eq_append_getElem hlt]
        simp only [List.flatMap_append, List.flatMap_cons, List.flatMap_nil, List.append_nil, Nat.add_mul, Nat.one_mul]
        exact hownj
  · have hi1 : i = l.length := by omega
    subst hi1
    simp
    rw [List.take_of_length_le (Nat.le_refl _)] at hown hfit
    have hsub : h1.Sub h1.n hi := hfr hi hown.1 fun b' hb' => hown.old hb'
    have hout : putOut sz l = .tuple #[.string (bytesOfInts (l.flatMap (beB sz))), .int .i64 0] := by
      unfold putOut
      rw [if_neg w, if_pos (by simpa using hfit)]
      rfl
    obtain ⟨_, ⟨rfl, hcells, hlen0, hH⟩ | ⟨nm, hn1, hn2, rfl, hcl2, hH⟩⟩ := hown
    · simp
      have : bytesOfInts (l.flatMap (beB sz)) = ⟨#[]⟩ := by
        rw [List.map_eq_nil_iff] at hcells
        rw [hcells]
        rfl
      rw [hout, this]
      exact ⟨rfl, hsub⟩
    · have hcc : hi.cellsOf nm = some ((l.flatMap (beB sz)).map cU8, .loose, 1) := by
        unfold Heap.cellsOf
        rw [hH, with1_m, if_pos rfl]
      have hcut : acut ((l.flatMap (beB sz)).map cU8) 0 (l.length * sz) = some ((l.flatMap (beB sz)).map cU8) := by
        unfold acut
        rw [if_pos (by omega)]
        rw [List.drop_zero, List.take_of_length_le (by omega)]
      have hf : afirst hi 1 (l.length * sz) (.slice (some ⟨nm, 0, none⟩) (l.length * sz) (l.length * sz)) = some ((l.flatMap (beB sz)).map cU8) := by
        simp only [afirst, hcc, if_true, Nat.mul_one]
        exact hcut
      have hab := abytes_ints (l.flatMap (beB sz))
      simp [hf, hab]
      rw [hout]
      exact ⟨rfl, hsub⟩

/-! bytes and order -/
def bN : Nat → Nat → List UInt8
  | 0, _ => []
  | n + 1, x => UInt8.ofNat (x / 256 ^ n % 256) :: bN n x
theorem bN_len : ∀ n x, (bN n x).length = n
  | 0, _ => rfl
  | n + 1, x => by simp [bN, bN_len n x]
theorem mod_step (n x : Nat) : x % 256 ^ (n + 1) = 256 ^ n * (x / 256 ^ n % 256) + x % 256 ^ n := by
  rw [Nat.pow_succ, Nat.mod_mul]
  omega
theorem u8_lt (a b : Nat) (ha : a < 256) (hb : b < 256) : decide (UInt8.ofNat a < UInt8.ofNat b) = decide (a < b) := by
  rw [decide_eq_decide, UInt8.lt_iff_toNat_lt, UInt8.toNat_ofNat', UInt8.toNat_ofNat', Nat.mod_eq_of_lt ha, Nat.mod_eq_of_lt hb]
theorem u8_eq (a b : Nat) (ha : a < 256) (hb : b < 256) : UInt8.ofNat a = UInt8.ofNat b ↔ a = b := by
  rw [← UInt8.toNat_inj, UInt8.toNat_ofNat', UInt8.toNat_ofNat', Nat.mod_eq_of_lt ha, Nat.mod_eq_of_lt hb]
theorem split_lt (p q r s t : Nat) (h1 : r < p) (h2 : t < p) : (p * q + r < p * s + t) ↔ q < s ∨ (q = s ∧ r < t) := by
  rcases Nat.lt_trichotomy q s with h | h | h
  · have : p * (q + 1) ≤ p * s := Nat.mul_le_mul_left _ h
    rw [Nat.mul_succ] at this
    constructor <;> intro <;> omega
  · subst h; constructor <;> intro <;> omega
  · have : p * (s + 1) ≤ p * q := Nat.mul_le_mul_left _ h
    rw [Nat.mul_succ] at this
    constructor <;> intro <;> omega
theorem split_eq (p q r s t : Nat) (h1 : r < p) (h2 : t < p) : (p * q + r = p * s + t) ↔ q = s ∧ r = t := by
  rcases Nat.lt_trichotomy q s with h | h | h
  · have : p * (q + 1) ≤ p * s := Nat.mul_le_mul_left _ h
    rw [Nat.mul_succ] at this
    constructor <;> intro <;> omega
  · subst h; constructor <;> intro <;> omega
  · have : p * (s + 1) ≤ p * q := Nat.mul_le_mul_left _ h
    rw [Nat.mul_succ] at this
    constructor <;> intro <;> omega
theorem bN_less : ∀ n x y, Op.bytesLess (bN n x) (bN n y) = decide (x % 256 ^ n < y % 256 ^ n)
  | 0, x, y => by simp [bN, Op.bytesLess, Nat.mod_one]
  | n + 1, x, y => by
    have hp : 0 < 256 ^ n := Nat.pow_pos (by omega)
    have ha : x / 256 ^ n % 256 < 256 := Nat.mod_lt _ (by omega)
    have hb : y / 256 ^ n % 256 < 256 := Nat.mod_lt _ (by omega)
    show (decide (UInt8.ofNat (x / 256 ^ n % 256) < UInt8.ofNat (y / 256 ^ n % 256)) || (UInt8.ofNat (x / 256 ^ n % 256) == UInt8.ofNat (y / 256 ^ n % 256) && Op.bytesLess (bN n x) (bN n y))) = _
    rw [u8_lt _ _ ha hb, bN_less n x y, mod_step, mod_step, Bool.eq_iff_iff]
    simp only [Bool.or_eq_true, Bool.and_eq_true, beq_iff_eq, decide_eq_true_eq, u8_eq _ _ ha hb]
    exact (split_lt _ _ _ _ _ (Nat.mod_lt _ hp) (Nat.mod_lt _ hp)).symm
theorem bN_eq : ∀ n x y, bN n x = bN n y ↔ x % 256 ^ n = y % 256 ^ n
  | 0, x, y => by simp [bN, Nat.mod_one]
  | n + 1, x, y => by
    have hp : 0 < 256 ^ n := Nat.pow_pos (by omega)
    have ha : x / 256 ^ n % 256 < 256 := Nat.mod_lt _ (by omega)
    have hb : y / 256 ^ n % 256 < 256 := Nat.mod_lt _ (by omega)
    rw [mod_step, mod_step, split_eq _ _ _ _ _ (Nat.mod_lt _ hp) (Nat.mod_lt _ hp), bN, bN, List.cons.injEq, bN_eq n x y, u8_eq _ _ ha hb]
theorem u8_wrap (n : Int) : IntKind.u8.wrap n = n % 256 := by
  unfold IntKind.wrap
  simp [show IntKind.u8.bits = 8 from rfl, show IntKind.u8.signed = false from rfl]
theorem beB_bN (x : Nat) : ∀ n, ((beB n x).map fun k => UInt8.ofNat k.toNat) = bN n x
  | 0 => rfl
  | n + 1 => by
    rw [bN, ← beB_bN x n]
    simp only [beB, List.range_succ_eq_map, List.map_cons, List.map_map]
    congr 1
    · rw [u8_wrap, Nat.add_sub_cancel, Nat.sub_zero, Int.fdiv_eq_ediv_of_nonneg _ (Int.pow_nonneg (by omega)), show ((2 : Int) ^ (8 * n)) = ((256 ^ n : Nat) : Int) by rw [Int.natCast_pow, Int.pow_mul]; rfl]
      congr 1
    · apply List.map_congr_left
      intro i _
      simp only [Function.comp, Nat.succ_eq_add_one]
      rw [show n + 1 - 1 - (i + 1) = n - 1 - i by omega]

theorem str_be (n x : Nat) : bytesOfInts (([(x : Int)]).flatMap (beB n)) = ⟨(bN n x).toArray⟩ := by
  unfold bytesOfInts
  rw [List.flatMap_cons, List.flatMap_nil, List.append_nil, beB_bN]
theorem toList_mk (l : List UInt8) : (ByteArray.mk l.toArray).toList = l := by
  rw [ByteArray.toList_eq]
theorem fits_lt {n x : Nat} : fits n (x : Int) ↔ x < 256 ^ n := by
  unfold fits
  rw [Int.fdiv_eq_ediv_of_nonneg _ (Int.pow_nonneg (by omega)), show ((2 : Int) ^ (8 * n)) = ((256 ^ n : Nat) : Int) by rw [Int.natCast_pow, Int.pow_mul]; rfl]
  have hp : 0 < 256 ^ n := Nat.pow_pos (by omega)
  rw [← Int.natCast_ediv]
  constructor
  · intro h
    have : x / 256 ^ n = 0 := by omega
    rwa [Nat.div_eq_zero_iff_lt hp] at this
  · intro h
    rw [Nat.div_eq_of_lt h]
    exact ⟨by omega, rfl⟩

theorem sl_one {n : Int} {h : Heap} {b : Nat} (hc : h.cellsOf b = some ([.int .i64 n], .ex, 1)) : Sl (.int .i64) h (.slice (some ⟨b, 0, none⟩) 1 1) [n] :=
  .inr ⟨b, 0, 1, _, _, _, rfl, hc, Nat.le_refl _, Nat.le_refl _, fun i hi => by
    have : i = 0 := by simp at hi; omega
    subst this; rfl⟩
theorem awake_ok (h : Heap) : ACalls Try.prog 23 [] h fun v h' => v = .bool true ∧ h' = h := by
  refine ACalls.drop (R := fun v h' => v = .bool true ∧ h.Sub h.n h') ?_ fun v h' hh => ⟨h, hh.2, by rw [hh.1]; exact .bool, hh.1, rfl⟩
  refine acalls_of Try.func23 k23 n23 (by simp) fun hcl hb => ?_
  simp [c23, afill, mcells]
  refine (put_ok 2 [1, 256] _ _ (.inr ⟨h.n, 0, 2, _, _, _, rfl, by simp [Heap.cellsOf, push_m]; exact ⟨rfl, rfl, rfl⟩, Nat.le_refl _, by simp, fun i hi => ?_⟩) (by simp)).mono ?_
  · match i, hi with
    | 0, _ => rfl
    | 1, _ => rfl
  rintro v1 h1 ⟨rfl, e⟩
  subst e
  have hp : putOut 2 [1, 256] = .tuple #[.string ⟨#[0, 1, 1, 0]⟩, .int .i64 0] := by
    unfold putOut
    rw [if_neg (by omega), if_pos (by decide)]
    congr 1
  rw [hp]
  simp
  exact ⟨Nat.le_refl _, Nat.le_succ _, fun b o e => by rw [push_m, if_neg (by have := (hcl b o e).1; omega)]; exact e, hcl⟩

theorem putOut_zero {size a : Int} {s : ByteArray} (h : putOut size [a] = .tuple #[.string s, .int .i64 0]) : (1 ≤ size ∧ size ≤ 7) ∧ fits size.toNat a ∧ s = bytesOfInts ([a].flatMap (beB size.toNat)) := by
  unfold putOut at h
  split at h
  · simp at h
  · split at h
    · rename_i h1 h2
      simp only [Value.tuple.injEq, Array.mk.injEq, List.cons.injEq, Value.string.injEq] at h
      exact ⟨by omega, h2 a (by simp), h.1.symm⟩
    · simp at h
theorem order_ok (size a b : Int) (h : Heap) : ACalls Try.prog 3 [.int .i64 size, .int .i64 a, .int .i64 b] h fun v h' => v = .bool true ∧ h' = h := by
  refine ACalls.drop (R := fun v h' => v = .bool true ∧ h.Sub h.n h') ?_ fun v h' hh => ⟨h, hh.2, by rw [hh.1]; exact .bool, hh.1, rfl⟩
  refine acalls_of Try.func3 k3 n3 (by simp) fun hcl hb => ?_
  simp [c3]
  refine (awake_ok _).mono ?_
  rintro v1 h1 ⟨rfl, e⟩
  subst e
  simp [aun, afill, mcells]
  refine (put_ok size [a] _ _ (sl_one (by simp [Heap.cellsOf, push_m])) (by simp)).mono ?_
  rintro v2 h2 ⟨rfl, e⟩
  subst e
  obtain ⟨s, k, hs⟩ : ∃ s k, putOut size [a] = .tuple #[.string s, .int .i64 k] := by
    unfold putOut; split
    · exact ⟨_, _, rfl⟩
    · split <;> exact ⟨_, _, rfl⟩
  obtain ⟨t, j, ht⟩ : ∃ s k, putOut size [b] = .tuple #[.string s, .int .i64 k] := by
    unfold putOut; split
    · exact ⟨_, _, rfl⟩
    · split <;> exact ⟨_, _, rfl⟩
  rw [hs]
  simp [aun, afill, mcells]
  refine (put_ok size [b] _ _ (sl_one (by simp [Heap.cellsOf, push_m])) (by simp)).mono ?_
  rintro v2 h2 ⟨rfl, e⟩
  subst e
  rw [ht]
  have hsub : h1.Sub h1.n ((h1.push (.cells [.int .i64 a] .ex 1)).push (.cells [.int .i64 b] .ex 1)) := ⟨Nat.le_refl _, by show h1.n ≤ h1.n + 1 + 1; omega, fun b o e => by
    have := (hcl b o e).1
    rw [push_m, if_neg (by show ¬ b = h1.n + 1; omega), push_m, if_neg (by omega)]; exact e, hcl⟩
  by_cases hk : k = 0
  · subst hk
    by_cases hj : j = 0
    · subst hj
      obtain ⟨h1s, h1f, rfl⟩ := putOut_zero hs
      obtain ⟨h2s, h2f, rfl⟩ := putOut_zero ht
      obtain ⟨n, rfl⟩ : ∃ n : Nat, size = n := ⟨size.toNat, by omega⟩
      simp only [Int.toNat_natCast] at h1f h2f hs ht
      obtain ⟨x, rfl⟩ : ∃ x : Nat, a = x := ⟨a.toNat, by have := h1f.1; omega⟩
      obtain ⟨y, rfl⟩ : ∃ x : Nat, b = x := ⟨b.toNat, by have := h2f.1; omega⟩
      rw [fits_lt] at h1f h2f
      simp only [Int.toNat_natCast, str_be] at hs ht ⊢
      have f1 : strLess ⟨(bN n x).toArray⟩ ⟨(bN n y).toArray⟩ = decide (x < y) := by
        unfold strLess
        rw [toList_mk, toList_mk, bN_less, Nat.mod_eq_of_lt h1f, Nat.mod_eq_of_lt h2f]
      have f2 : ((⟨(bN n x).toArray⟩ : ByteArray) = ⟨(bN n y).toArray⟩) = (x = y) := by
        apply propext
        have e := bN_eq n x y
        rw [Nat.mod_eq_of_lt h1f, Nat.mod_eq_of_lt h2f] at e
        rw [ByteArray.mk.injEq]
        exact ⟨fun q => e.1 (List.toArray_inj q), fun q => by rw [e.2 q]⟩
      have f3 : (⟨(bN n x).toArray⟩ : ByteArray).size = n := by show (bN n x).toArray.size = n; rw [List.size_toArray, bN_len]
      have f4 : (⟨(bN n y).toArray⟩ : ByteArray).size = n := by show (bN n y).toArray.size = n; rw [List.size_toArray, bN_len]
      have f2' : decide ((⟨(bN n x).toArray⟩ : ByteArray) = ⟨(bN n y).toArray⟩) = decide (x = y) := decide_eq_decide.2 (iff_of_eq f2)
      revert f1 f2' f3 f4
      clear f2 hs ht
      generalize (⟨(bN n x).toArray⟩ : ByteArray) = s
      generalize (⟨(bN n y).toArray⟩ : ByteArray) = t
      intro f1 f3 f4 f2'
      by_cases hxy : x = y
      · subst hxy
        simp only [decide_true] at f2'
        simp [aeq, f1, f2', f3, f4]
        exact hsub
      · have hi : ¬ (x : Int) = y := by omega
        simp only [hxy, decide_false] at f2'
        simp [aeq, f1, f2', f3, f4, hi]
        exact hsub
    · simp [hj]
      exact hsub
  · simp [hk]
    exact hsub

theorem calls_plain {P : Program} {g : FuncId} {args : Array Value} {b : Bool} {W : World} (hs : ∀ μ : Mu, LRel μ args.toList args)
    (hh : ACalls P g args.toList ⟨fun _ => none, 0⟩ fun v _ => v = .bool b) : Calls P g args W fun e W' => e = .returned (.bool b) ∧ Below W.heap.size W W' := by
  have hr : HRel W.heap.size (fun _ => none) ⟨fun _ => none, 0⟩ W := {
    base := Nat.le_refl _
    dom := fun b mi e => by simp at e
    obj := fun b o e => by simp at e
    own := fun b o mi e => by simp at e }
  refine (hh W.heap.size (fun _ => none) W args hr (hs _)).mono fun e W' ⟨v, v', h', μ', he, hv, _, hbel, _, _, hr⟩ => ?_
  subst hr
  cases hv
  exact ⟨he, hbel⟩

theorem own : ownKnob Try.prog.godebug = none := by kernel_rfl
set_option maxRecDepth 100000 in
theorem lifted (os : Os) (started : os.Started) (H : Type) (enc : TypeId × Value → H) :
    ReturnsInHanded {} Try.checked os 3 .any (Rows.numOrderSpec.pre6 enc Try.prog Try.f3 Rows.numOrderRow.domain false) (Rows.numOrderSpec.post enc Try.prog Try.f3 false true false false) := by
  refine returnsInHanded_of_change_sized (C := Try.checked) own started (by kernel_rfl) Try.func3
    (ChangeSpec.witness6 (enc := enc) (C := Try.checked) false ⟨#[], #[.int .i64 0, .int .i64 0, .int .i64 0], []⟩ 8 (by kernel_rfl) (by kernel_rfl) (by kernel_rfl) (by kernel_rfl)) ?_
  intro W base args ds gs before hval0 hW hcnd hsz0 _
  have hval : ∀ (j : Nat) t v, Try.f3.params[j]? = some t → args[j]? = some v → Value.okWide Try.prog W .any base t v := hval0
  have hW' := hW
  obtain ⟨p, q, hA0, hV, rfl, hfz, hnd⟩ := hW
  have hA : DataW.TrodAll enc Try.prog W 0 (fun _ => true) true Try.f3.params.toList args.toList ds p := hA0
  rw [Try.params3] at hA hval
  obtain ⟨v0, vs0, d0, ds0, p0, q0, hargs, rfl, rfl, h0, r0⟩ := trodAll_cons hA
  obtain ⟨v1, vs1, d1, ds1, p1, q1, rfl, rfl, rfl, h1, r1⟩ := trodAll_cons r0
  obtain ⟨v2, vs2, d2, ds2, p2, q2, rfl, rfl, rfl, h2, r2⟩ := trodAll_cons r1
  obtain ⟨rfl, rfl, rfl⟩ := trodAll_nil r2
  obtain rfl : args = #[v0, v1, v2] := by cases args; simp_all
  obtain ⟨rfl, rfl⟩ := trodVars_none hV
  obtain ⟨a0, rfl, rfl, rfl, w0⟩ := open_int Try.underlying3 (hval 0 3 v0 rfl rfl) h0
  obtain ⟨a1, rfl, rfl, rfl, w1⟩ := open_int Try.underlying3 (hval 1 3 v1 rfl rfl) h1
  obtain ⟨a2, rfl, rfl, rfl, w2⟩ := open_int Try.underlying3 (hval 2 3 v2 rfl rfl) h2
  clear hA0 hval0 hsz0
  refine (calls_plain (b := true) (fun μ => ⟨rfl, fun i hi => ?_⟩) ((order_ok a0 a1 a2 _).mono fun _ _ hh => hh.1)).mono fun e W' ⟨he, bel⟩ => ?_
  · match i, hi with
    | 0, _ => exact .int
    | 1, _ => exact .int
    | 2, _ => exact .int
  subst he
  exact ⟨_, rfl, _, _, _, [], _, [], hW', trodAll_mk1 (shut_bool Try.underlying4 _), (trodAll_cons_mk (shut_int Try.underlying3 w0) (trodAll_cons_mk (shut_int Try.underlying3 w1) (trodAll_cons_mk (shut_int Try.underlying3 w2) trodAll_mk0))), rfl, bel.frame _, fun h => by cases h⟩
theorem joined : joinedFacts Try.pinned.checked.prog 3 Try.f3 Rows.numOrderSpec Rows.numOrderRow = true := by
  have b := begun
  simp only [Bool.and_eq_true] at b
  unfold joinedFacts
  simp only [b.1.1, b.1.2, b.2, Bool.and_true]
  simp only [Bool.and_eq_true]
  repeat' apply And.intro
  all_goals kernel_rfl
theorem over : Rows.numOrderRow.holds Try.pinned (OpenSpec.ofChange Rows.numOrderSpec) :=
  OpenClaim.holds_of_wide 3 Try.f3 rfl rfl rfl rfl rfl rfl rfl ⟨rfl, rfl, rfl, rfl, rfl⟩ rfl rfl rfl rfl rfl (by kernel_rfl) Try.func3 joined
    (of_decide_eq_true (by kernel_rfl)) (by unfold Func.isWrapper; first | (rw [if_pos (by decide +kernel)]; kernel_rfl) | (rw [if_neg (by decide +kernel)]; exact ⟨rfl, rfl⟩))
    (fun os started H enc _ => lifted os started H enc)
end Go.Proofs.Ytgmmlijdmocneaa.numOrder
namespace Go.Proofs.Ytgmmlijdmocneaa
/-- The row. -/
theorem numOrder_holds : Rows.NumOrderSaid := numOrder.over
end Go.Proofs.Ytgmmlijdmocneaa
