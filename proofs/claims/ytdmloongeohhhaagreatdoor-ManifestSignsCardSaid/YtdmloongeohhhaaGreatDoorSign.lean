/-
  Contracts.
-/
import Derived.Test.YtdmloongeohhhaaGreatDoorRsha
import Derived.Test.YtdmloongeohhhaaGreatDoorManf
import Derived.Test.YtdmloongeohhhaaGreatDoorSha
import Derived.Test.YtdmloongeohhhaaGreatDoorLin1
import Derived.Test.YtdmloongeohhhaaGreatDoorVers
import Derived.Test.YtdmloongeohhhaaGreatDoorStr
import Derived.Test.YtdmloongeohhhaaGreatDoorAbEnter
import Derived.Test.YtdmloongeohhhaaGreatDoorAbStep
import Derived.Test.YtdmloongeohhhaaGreatDoorProg
import Derived.IntWalk
import Derived.KernelRfl
set_option linter.unusedSimpArgs false
set_option linter.unusedVariables false
set_option linter.unusedSectionVars false
namespace Go.Proofs.YtdmloongeohhhaaGreatDoor.sign
open Go Go.Ab Go.Proofs Go.RowKit Go.Proofs.YtdmloongeohhhaaGreatDoor.str Go.Proofs.YtdmloongeohhhaaGreatDoor.vers Go.Proofs.YtdmloongeohhhaaGreatDoor.lin1 Go.Proofs.YtdmloongeohhhaaGreatDoor.sha Go.Proofs.YtdmloongeohhhaaGreatDoor.manf Go.Proofs.YtdmloongeohhhaaGreatDoor.rsha
variable [Inhabited TabBox]
variable [Nonempty GF]
variable [Nonempty GE]
set_option maxRecDepth 100000
attribute [local simp] s_ops s_seq s_cond s_cond_t s_cond_f s_block s_exit s_ret s_skip s_then_n s_then_n' s_then_e s_then_e' s_then_r s_then_r' s_block_n s_block_r s_block_e s_post_r s_post_n s_res0 s_res1 s_res2 s_res3 s_res4 s_nil s_cons s_guard s_guard_tt s_guard_ff s_guard_tf s_guard_ft s_guard_u s_call s_kL s_put s_put0 s_set s_tmp s_const s_func s_glob s_init s_mkF s_mkF0 s_mv s_bin s_pick s_op aop oK_some oK_none bK_some bK_none b_add b_sub b_mul b_quo b_rem b_and b_or b_xor b_andNot b_shl b_shr b_eql b_neq b_lss b_leq b_gtr b_geq b_sadd b_seql b_sneq b_slss b_sleq b_sgtr b_sgeq s_draw s_drawT s_tK s_tT s_tF s_tB s_tR s_stage s_stage0 s_kW s_kR s_rc0 s_rc s_rcg rK_some rK_none rG_b rG_u s_callv s_callv_f s_nextM s_postR_r s_postR_n s_resA0 s_resAt s_resAc s_resC s_tup0 s_tup1 s_tup2 s_tup3
def c99_0 : AC := .seq (.ops [⟨ some 14, none, .bin .lss (.tmp 13) (.tmp 12) ⟩]) (.seq (.cond (.tmp 14) .skip (.exit 0)) (.seq (.block 1 (.seq (.ops [⟨ some 15, none, .mv (.tmp 13) ⟩, ⟨ some 6, none, .mv (.tmp 15) ⟩]) (.ops [⟨ some 16, none, .mv (.tmp 5) ⟩, ⟨ some 17, none, .mv (.tmp 6) ⟩, ⟨ some 18, none, .iAddrS 1 (.tmp 16) (.tmp 17) ⟩, ⟨ some 19, none, .load none (.tmp 18) ⟩, ⟨ some 20, none, .mv (.tmp 1) ⟩, ⟨ some 21, none, .bin .xor (.tmp 19) (.tmp 20) ⟩, ⟨ some 22, none, .iAddrS 1 (.tmp 16) (.tmp 17) ⟩, ⟨ none, none, .store 1 (.tmp 22) (.tmp 21) ⟩]))) (.ops [⟨ some 23, none, .bin .add (.tmp 13) (.const (.int .i64 1)) ⟩, ⟨ some 13, none, .mv (.tmp 23) ⟩])))
def c99 : AC := .seq (.ops [⟨ some 4, none, .mv (.const (.string ⟨ ⟨[] ⟩ ⟩)) ⟩]) (.seq (.ops [⟨ some 7, none, .mkSlT 5 [.int .u8 0] 1 (.const (.int .i64 64)) (.const (.int .i64 64)) ⟩, ⟨ some 5, none, .mv (.tmp 7) ⟩]) (.seq (.ops [⟨ some 8, none, .mv (.tmp 5) ⟩, ⟨ some 9, none, .mv (.tmp 0) ⟩, ⟨ some 10, none, .copy 1 (.tmp 8) (.tmp 9) ⟩]) (.seq (.seq (.ops [⟨ some 11, none, .mv (.tmp 5) ⟩, ⟨ some 12, none, .lenS false (.tmp 11) ⟩, ⟨ some 13, none, .mv (.const (.int .i64 0)) ⟩]) (.block 0 (.loop c99_0))) (.seq (.ops [⟨ some 24, none, .mv (.tmp 5) ⟩, ⟨ some 25, none, .toStr (.tmp 24) ⟩, ⟨ some 4, none, .mv (.tmp 25) ⟩]) .ret))))
theorem k99 : compF Tryz.prog Tryz.f99 = some (c99, [4]) := by kernel_rfl
theorem n99 : Tryz.f99.ntmps = 26 := by kernel_rfl
def c62_0 : AC := .seq (.seq (.ops [⟨ some 6, none, .mv (.tmp 4) ⟩, ⟨ some 7, none, .bin .lss (.tmp 6) (.const (.int .i64 32)) ⟩]) (.cond (.tmp 7) .skip (.exit 0))) (.seq (.block 1 (.ops [⟨ some 10, none, .mv (.tmp 3) ⟩, ⟨ some 11, none, .mv (.tmp 4) ⟩, ⟨ some 12, none, .iAddrA 32 1 (.tmp 1) (.tmp 11) ⟩, ⟨ some 13, none, .load none (.tmp 12) ⟩, ⟨ some 14, none, .buildS 1 [.int .u8 0] [(0, 1, .tmp 13)] ⟩, ⟨ some 15, none, .app 1 1 5 (.tmp 10) (.tmp 14) ⟩, ⟨ some 3, none, .mv (.tmp 15) ⟩])) (.ops [⟨ some 8, none, .mv (.tmp 4) ⟩, ⟨ some 9, none, .bin .add (.tmp 8) (.const (.int .i64 1)) ⟩, ⟨ some 4, none, .mv (.tmp 9) ⟩]))
def c62 : AC := .seq (.ops [⟨ some 1, none, .box (.tmp 0) ⟩, ⟨ some 2, none, .mv (.const (.string ⟨ ⟨[] ⟩ ⟩)) ⟩]) (.seq (.ops [⟨ some 5, none, .buildS 0 [] [] ⟩, ⟨ some 3, none, .mv (.tmp 5) ⟩]) (.seq (.seq (.ops [⟨ some 4, none, .mv (.const (.int .i64 0)) ⟩]) (.block 0 (.loop c62_0))) (.seq (.ops [⟨ some 16, none, .mv (.tmp 3) ⟩, ⟨ some 17, none, .toStr (.tmp 16) ⟩, ⟨ some 2, none, .mv (.tmp 17) ⟩]) .ret)))
theorem k62 : compF Tryz.prog Tryz.f62 = some (c62, [2]) := by kernel_rfl
theorem n62 : Tryz.f62.ntmps = 18 := by kernel_rfl
def c65_0 : AC := .seq (.ops [⟨ some 8, none, .bin .lss (.tmp 7) (.const (.int .i64 32)) ⟩]) (.seq (.cond (.tmp 8) .skip (.exit 0)) (.seq (.block 1 (.seq (.ops [⟨ some 9, none, .mv (.tmp 7) ⟩, ⟨ some 6, none, .mv (.tmp 9) ⟩]) (.draw [([⟨ some 10, none, .mv (.tmp 5) ⟩, ⟨ some 11, none, .mv (.tmp 6) ⟩, ⟨ some 12, none, .iAddrA 32 1 (.tmp 2) (.tmp 11) ⟩, ⟨ some 13, none, .load none (.tmp 12) ⟩, ⟨ some 14, none, .mv (.tmp 6) ⟩, ⟨ some 15, none, .iAddrA 32 1 (.tmp 3) (.tmp 14) ⟩, ⟨ some 16, none, .load none (.tmp 15) ⟩, ⟨ some 17, none, .bin .xor (.tmp 13) (.tmp 16) ⟩, ⟨ some 18, none, .bin .or (.tmp 10) (.tmp 17) ⟩], [⟨ some 5, none, .mv (.tmp 18) ⟩], []), ([], [], [])]))) (.ops [⟨ some 19, none, .bin .add (.tmp 7) (.const (.int .i64 1)) ⟩, ⟨ some 7, none, .mv (.tmp 19) ⟩])))
def c65 : AC := .seq (.ops [⟨ some 2, none, .box (.tmp 0) ⟩, ⟨ some 3, none, .box (.tmp 1) ⟩, ⟨ some 4, none, .mv (.const (.bool false)) ⟩]) (.seq (.ops [⟨ some 5, none, .mv (.const (.int .u8 0)) ⟩]) (.seq (.seq (.ops [⟨ some 7, none, .mv (.const (.int .i64 0)) ⟩]) (.block 0 (.loop c65_0))) (.seq (.ops [⟨ some 20, none, .mv (.tmp 5) ⟩, ⟨ some 21, none, .bin .eql (.tmp 20) (.const (.int .u8 0)) ⟩, ⟨ some 4, none, .mv (.tmp 21) ⟩]) .ret)))
theorem k65 : compF Tryz.prog Tryz.f65 = some (c65, [4]) := by kernel_rfl
theorem n65 : Tryz.f65.ntmps = 22 := by kernel_rfl
theorem sl_strs2 (H : Heap) (a b : List UInt8) : Sl enS (H.push (.cells [.string (bs a), .string (bs b)] .ex 1)) (.slice (some ⟨H.n, 0, none⟩) 2 2) [a, b] :=
  .inr ⟨H.n, 0, 2, [.string (bs a), .string (bs b)], .ex, 1, rfl, cellsOf_new _ _ _ _, Nat.le_refl _, fun _ => by simp, fun i hi => by
    match i, hi with
    | 0, _ => rfl
    | 1, _ => rfl⟩
theorem digK_keep {H H' : Heap} {b : Nat} {nm : Option Nat} {T : List UInt8} {k : Nat} (d : DigK H b nm T k) (hk : ∀ y ob, H.m y = some ob → (y = b ∨ nm = some y) → H'.m y = some ob) : DigK H' b nm T k := by
  obtain ⟨rv, hb, hr, hl⟩ := d
  refine ⟨rv, ?_, ?_, hl⟩
  · have := hk b _ (m_of_cells hb) (.inl rfl)
    unfold Heap.cellsOf
    rw [this]
  · rcases hr with q | ⟨x, o, cap, c, e, h2, h3, h4⟩
    · exact .inl q
    · refine .inr ⟨x, o, cap, c, e, h2, ?_, h4⟩
      have := hk x _ (m_of_cells h3) (.inr e)
      unfold Heap.cellsOf
      rw [this]
theorem digK_ne {H : Heap} {b : Nat} {nm : Option Nat} {T : List UInt8} {k : Nat} (d : DigK H b nm T k) : nm ≠ some b := by
  obtain ⟨rv, hb, hr, hl⟩ := d
  intro e
  exact hr.ne hb b e rfl
theorem digK_lt {H : Heap} (hc : H.Closed) {b : Nat} {nm : Option Nat} {T : List UInt8} {k : Nat} (d : DigK H b nm T k) : b < H.n ∧ ∀ y, nm = some y → y < H.n := by
  obtain ⟨rv, hb, hr, hl⟩ := d
  refine ⟨cellsOf_lt hc hb, fun y e => ?_⟩
  rcases hr with q | ⟨x, o, cap, c, e', h2, h3, h4⟩
  · rw [q.1] at e; cases e
  · rw [e'] at e; cases e
    exact cellsOf_lt hc h3
/-- a digest made behind h0 -/
structure Dl (h0 : Heap) (b : Nat) (nm : Option Nat) (T : List UInt8) (H : Heap) : Prop where
  c0 : h0.Closed
  b0 : h0.n ≤ b
  gr : Grr h0 H
  d : DigK H b nm T (T.length / 64)
  n0 : ∀ y, nm = some y → h0.n ≤ y
/-- one text more -/
theorem write1_ok {h0 : Heap} (b : Nat) (nm : Option Nat) (T s : List UInt8) (h : Heap) (hd : Dl h0 b nm T h) (hn : T.length + s.length ≤ 50000000) :
    ACalls Tryz.prog 70 [.pointer (some ⟨b, 0, none⟩), .slice (some ⟨h.n, 0, none⟩) 1 1] (h.push (.cells [.string (bs s)] .ex 1)) fun r h' => r = .tuple #[] ∧ ∃ nm', Dl h0 b nm' (T ++ s) h' ∧ Fr h b nm h' ∧ (nm' = nm ∨ ∃ y, nm' = some y ∧ h.n < y) := by
  have hcl := hd.gr.cl
  have hlt := digK_lt hcl hd.d
  have hc1 : (h.push (.cells [.string (bs s)] .ex 1)).Closed := closed_push hcl (fun x hx => by simp at hx; rw [hx]; exact .string)
  have e0 : ∀ y ob, h.m y = some ob → (h.push (.cells [.string (bs s)] .ex 1)).m y = some ob := fun y ob e => by rw [push_m, if_neg (by have := (hcl y ob e).1; omega)]; exact e
  have hfl : [s].flatten = s := by simp
  have w := write_ok b nm T [s] (.slice (some ⟨h.n, 0, none⟩) 1 1) (h.push (.cells [.string (bs s)] .ex 1)) (digK_keep hd.d fun y ob e _ => e0 y ob e)
    (fun H hF => by
      have := hF.2 h.n (.cells [.string (bs s)] .ex 1) (by simp [push_m]) (by omega) (fun e => by have := hlt.2 _ e; omega)
      refine .inr ⟨h.n, 0, 1, [.string (bs s)], .ex, 1, rfl, ?_, Nat.le_refl _, fun _ => by simp, fun i hi => ?_⟩
      · unfold Heap.cellsOf
        rw [this]
      · obtain rfl : i = 0 := by simp at hi; exact hi
        rfl) (by rw [hfl]; exact hn) (by simp)
  rw [hfl] at w
  refine w.mono' fun r h' hc' _ q => ?_
  obtain ⟨hr, nm', q1, q2, q3⟩ := q
  have hF : Fr h b nm h' := ⟨Nat.le_trans (Nat.le_succ _) q2.1, fun y ob e h1 h2 => q2.2 y ob (e0 y ob e) h1 h2⟩
  have q3' : nm' = nm ∨ ∃ y, nm' = some y ∧ h.n < y := by
    rcases q3 with q3 | ⟨y, h1, h2⟩
    · exact .inl q3
    · exact .inr ⟨y, h1, h2⟩
  have hle := hd.gr.n
  have hb0 := hd.b0
  refine ⟨hr, nm', ⟨hd.c0, hd.b0, ⟨Nat.le_trans hle hF.1, hc', fun y ob e => hF.2 y ob (hd.gr.m y ob e) ?_ ?_⟩, q1, ?_⟩, hF, q3'⟩
  · intro e'
    have := (hd.c0 y ob e).1
    omega
  · intro e'
    have := (hd.c0 y ob e).1
    have := hd.n0 y e'
    omega
  · intro y e'
    rcases q3' with q | ⟨z, h1, h2⟩
    · exact hd.n0 y (q ▸ e')
    · rw [h1] at e'; cases e'; omega
theorem dl_new (h0 : Heap) : ACalls Tryz.prog 66 [] h0 fun v h' => ∃ b, v = .pointer (some ⟨b, 0, none⟩) ∧ Dl h0 b none [] h' :=
  ACalls.closed fun hcl => (digest_new_ok h0).mono' fun v h' hc' _ ⟨b, e, q1, q2, q3⟩ => ⟨b, e, hcl, q1, ⟨q3.hi, hc', q3.sub⟩, by simpa using q2, fun y e => by cases e⟩
theorem dl_push {h0 H : Heap} {b : Nat} {nm : Option Nat} {T : List UInt8} (d : Dl h0 b nm T H) {o : AObj} (ho : o.Below (H.n + 1)) : Dl h0 b nm T (H.push o) :=
  ⟨d.c0, d.b0, d.gr.push ho, digK_keep d.d fun y ob e _ => by rw [push_m, if_neg (by have := (d.gr.cl y ob e).1; omega)]; exact e, d.n0⟩

theorem y_wrap (n : Nat) (h : n < 256) : IntKind.u8.wrap (n : Int) = (n : Int) := by
  unfold IntKind.wrap
  simp [IntKind.bits, IntKind.signed]
  omega
theorem y_ofInt (c : UInt8) : BitVec.ofInt 8 (c.toNat : Int) = c.toBitVec := by simp
theorem y_xor (a b : UInt8) : abits .xor .u8 (a.toNat : Int) (b.toNat : Int) = ((a ^^^ b).toNat : Int) := by
  unfold abits
  have e : (BitVec.ofInt 8 (a.toNat : Int) ^^^ BitVec.ofInt 8 (b.toNat : Int)).toNat = (a ^^^ b).toNat := by rw [y_ofInt, y_ofInt]; rfl
  show IntKind.u8.wrap (((BitVec.ofInt 8 (a.toNat : Int) ^^^ BitVec.ofInt 8 (b.toNat : Int)).toNat : Nat) : Int) = _
  rw [e, y_wrap _ (a ^^^ b).toNat_lt]
theorem y_or (a b : UInt8) : abits .or .u8 (a.toNat : Int) (b.toNat : Int) = ((a ||| b).toNat : Int) := by
  unfold abits
  have e : (BitVec.ofInt 8 (a.toNat : Int) ||| BitVec.ofInt 8 (b.toNat : Int)).toNat = (a ||| b).toNat := by rw [y_ofInt, y_ofInt]; rfl
  show IntKind.u8.wrap (((BitVec.ofInt 8 (a.toNat : Int) ||| BitVec.ofInt 8 (b.toNat : Int)).toNat : Nat) : Int) = _
  rw [e, y_wrap _ (a ||| b).toNat_lt]
/-- the first i bytes turned -/
def xoT (P : List UInt8) (x : UInt8) (i : Nat) : List UInt8 := (P.take i).map (· ^^^ x) ++ P.drop i
theorem xoT_len (P : List UInt8) (x : UInt8) (i : Nat) : (xoT P x i).length = P.length := by
  unfold xoT
  simp
  omega
theorem xoT_get (P : List UInt8) (x : UInt8) (i : Nat) (h : i < P.length) : (xoT P x i)[i]'(by rw [xoT_len]; exact h) = P[i] := by
  unfold xoT
  rw [List.getElem_append_right (by simp; omega)]
  simp [show min i P.length = i by omega]
theorem xoT_succ (P : List UInt8) (x : UInt8) (i : Nat) (h : i < P.length) : aput (ubs (xoT P x i)) i [.int .u8 ((P[i] ^^^ x).toNat : Int)] = ubs (xoT P x (i + 1)) := by
  have hl : ((P.take i).map (· ^^^ x)).length = i := by simp; omega
  have e1 : ubs (xoT P x i) = ubs ((P.take i).map (· ^^^ x)) ++ ubs (P.drop i) := by unfold xoT; rw [ubs_app]
  have e2 : ubs (xoT P x (i + 1)) = ubs ((P.take i).map (· ^^^ x)) ++ (ubs [P[i] ^^^ x] ++ ubs (P.drop (i + 1))) := by
    unfold xoT
    rw [List.take_succ_eq_append_getElem h, List.map_append, ubs_app, ubs_app, List.append_assoc]
    rfl
  have hl2 : (ubs ((P.take i).map (· ^^^ x))).length = i := by rw [ubs_len, hl]
  have ed : P.drop i = P[i] :: P.drop (i + 1) := List.drop_eq_getElem_cons h
  rw [e1, e2]
  unfold aput
  rw [List.take_append_of_le_length (by omega), List.take_of_length_le (by omega), List.append_assoc]
  congr 1
  have ed2 : ubs (P.drop i) = eb P[i] :: ubs (P.drop (i + 1)) := by rw [ed]; rfl
  rw [ed2, List.drop_append, List.drop_of_length_le (by rw [hl2]; simp), hl2]
  simp [ubs, eb]
/-- a key's block -/
def keyB (K : List UInt8) : List UInt8 := K ++ List.replicate (64 - K.length) 0
theorem keyB_len (K : List UInt8) (h : K.length ≤ 64) : (keyB K).length = 64 := by
  unfold keyB
  simp
  omega
theorem keyB_put (K : List UInt8) (h : K.length ≤ 64) : aput (zl .u8 64) 0 (ubs K) = ubs (keyB K) := by
  unfold keyB aput zl
  rw [ubs_app, ubs_len]
  simp only [List.take_zero, List.nil_append, Nat.zero_add, List.drop_replicate]
  congr 1
  unfold ubs
  rw [List.map_replicate]
  rfl
theorem pad_ok (K : List UInt8) (x : UInt8) (hK : K.length ≤ 64) (h : Heap) : ACalls Tryz.prog 99 [.string (bs K), .int .u8 (x.toNat : Int)] h fun v h' => v = .string (bs ((keyB K).map (· ^^^ x))) ∧ h' = h := by
  refine ACalls.same .string (acalls_of mix Tryz.func99 k99 n99 (by simp) fun hcl hb => ?_)
  have hP := keyB_len K hK
  have hput := keyB_put K hK
  have hz : (List.replicate 64 [Value.int .u8 0]).flatten = zl .u8 64 := rfl
  have hsf := strFirst (h.push (.cells (zl .u8 64) (.exT 5) 1)) K
  have hf0 := cellsOf_new h (zl .u8 64) (.exT 5) 1
  have hmin : min K.length 64 = K.length := by omega
  have hzl := zl_len .u8 64
  have hul := ubs_len K
  simp only [c99, s_seq, s_ops]
  simp [hz, bs_lit, -List.reduceReplicate]
  unfold enS at hsf
  simp [alen, bs_size, hmin, hsf, hf0, hzl, hul, hK, hput, set_at, -List.reduceReplicate]
  generalize hP0 : keyB K = P at *
  have hcl0 : ∀ i, (h.push (.cells (ubs (xoT P x i)) (.exT 5) 1)).Closed := fun i => closed_push hcl ubs_bel
  have h00 : xoT P x 0 = P := by unfold xoT; simp
  refine awp_loop_of (α := Nat) (fun i => i ≤ 64)
    (fun i => [(1, .int .u8 (x.toNat : Int)), (5, .slice (some ⟨h.n, 0, none⟩) 64 64), (12, .int .i64 64), (13, .int .i64 i)]) (fun i => h.push (.cells (ubs (xoT P x i)) (.exT 5) 1)) (fun i => 64 - i) 0
    (Nat.zero_le _) (by rw [h00]; exact ⟨Nat.le_succ _, Nat.le_refl _, fun _ _ e => e, by have := hcl0 0; rwa [h00] at this⟩) (by simp; exact ⟨.int, vb_slice (Nat.lt_succ_self _), .int, .int⟩) ?_
  intro i hi
  have hfi := cellsOf_new h (ubs (xoT P x i)) (.exT 5) 1
  have hxl := xoT_len P x i
  by_cases hi6 : i < 64
  · have hi' : (i : Int) < 64 := by omega
    have hg : (ubs (xoT P x i))[i]? = some (.int .u8 (P[i].toNat : Int)) := by rw [ubs_get (by omega), xoT_get P x i (by omega)]
    have hst := xoT_succ P x i (by omega)
    have e1 : IntKind.i64.wrap ((i : Int) + 1) = ((i + 1 : Nat) : Int) := by rw [IntWalk.i64_in _ (by omega)]; omega
    have hlt : i < (ubs (xoT P x i)).length := by rw [ubs_len]; omega
    have hg' : (ubs (xoT P x i))[i] = .int .u8 (P[i].toNat : Int) := by simpa [List.getElem?_eq_getElem hlt] using hg
    have hlt1 : i + 1 ≤ (ubs (xoT P x i)).length := hlt
    simp [c99_0, hg', hlt1, hi', aidx_of hi6, hfi, apart, hg, y_xor, mcells, hlt, hst, set_at, e1, -Int.natCast_add, -UInt8.toNat_xor]
    exact ⟨i + 1, by omega, by omega, ⟨Nat.le_succ _, Nat.le_refl _, fun _ _ e => e, hcl0 _⟩, .int, vb_slice (Nat.lt_succ_self _), .int, rfl, .int⟩
  · have hie : i = 64 := by omega
    subst hie
    have hx64 : xoT P x 64 = P.map (· ^^^ x) := by unfold xoT; rw [List.take_of_length_le (by omega), List.drop_of_length_le (by omega), List.append_nil]
    have hcut : acut (ubs (xoT P x 64)) 0 64 = some (ubs (xoT P x 64)) := acut_full (by rw [ubs_len]; omega)
    rw [hx64] at hfi hcut
    simp [c99_0, afirst, hfi, hcut, abytes_ubs, bs_mk, hx64]
    exact (Heap.Ext.refl h).push hcl _
structure BL where
  i : Nat
  H : Heap
  nm : Option Nat
  v : Value
theorem refBytes_ok (D : List UInt8) (hD : D.length = 32) (h : Heap) : ACalls Tryz.prog 62 [.agg (ubs D).toArray] h fun v h' => v = .string (bs D) ∧ h' = h := by
  refine ACalls.same .string (acalls_of mix Tryz.func62 k62 n62 (by simp) fun hcl hb => ?_)
  have hul : (ubs D).length = 32 := by rw [ubs_len, hD]
  have hc1 : (h.push (.cells (ubs D) .ex 1)).Closed := closed_push hcl ubs_bel
  have g1 : Grr h (h.push (.cells (ubs D) .ex 1)) := (Grr.refl hcl).push ubs_bel
  have f1 := cellsOf_new h (ubs D) .ex 1
  have fil0 : afill [] [] = some ([] : List Value) := rfl
  simp only [c62, s_seq, s_ops]
  simp [m_ubs, bs_lit, fil0]
  have hn1 : (h.push (.cells (ubs D) .ex 1)).n = h.n + 1 := rfl
  generalize h.push (.cells (ubs D) .ex 1) = H1 at *
  have l1 := LAt.made H1 1
  have g2 : Grr H1 (H1.push (.cells [] .ex 1)) := (Grr.refl hc1).push (fun x hx => by cases hx)
  refine awp_loop_of (α := BL) (fun z => z.i ≤ 32 ∧ Grr H1 z.H ∧ LAt z.H 1 z.nm z.v z.i (ubs (D.take z.i)) ∧ ∀ y, z.nm = some y → H1.n ≤ y)
    (fun z => [(1, .pointer (some ⟨h.n, 0, none⟩)), (3, z.v), (4, .int .i64 z.i)]) (fun z => z.H) (fun z => 32 - z.i) ⟨0, H1.push (.cells [] .ex 1), some H1.n, .slice (some ⟨H1.n, 0, none⟩) 0 0⟩
    ⟨Nat.zero_le _, g2, l1, fun y e => by cases e; exact Nat.le_refl _⟩ ⟨by have := g2.n; show h.n ≤ (H1.push _).n; omega, Nat.le_refl _, fun _ _ e => e, g2.cl⟩ (by simp; exact ⟨.ptr (by show h.n < H1.n + 1; omega), l1.below g2.cl, .int⟩) ?_
  rintro ⟨i, H, nm, v⟩ ⟨hi, g, l, hnm⟩
  dsimp only at hi g l hnm ⊢
  have fH := cellsOf_keep g.m f1
  obtain ⟨a0, rfl⟩ := l.form
  by_cases hi3 : i < 32
  · have hi' : (i : Int) < 32 := by omega
    have hlt : i < (ubs D).length := by rw [ubs_len]; omega
    have hg' : (ubs D)[i] = .int .u8 (D[i].toNat : Int) := by
      have := ubs_get (l := D) (i := i) (by omega)
      simpa [List.getElem?_eq_getElem hlt] using this
    have hlt1 : i + 1 ≤ (ubs D).length := hlt
    have fil : ∀ c : UInt8, afill [.int .u8 0] [(0, 1, .int .u8 (c.toNat : Int))] = some (ubs [c]) := fun _ => rfl
    have e1 : IntKind.i64.wrap ((i : Int) + 1) = ((i + 1 : Nat) : Int) := by rw [IntWalk.i64_in _ (by omega)]; omega
    have htl : (D.take i).length = i := by rw [List.length_take]; omega
    have htk : D.take (i + 1) = D.take i ++ [D[i]] := List.take_succ_eq_append_getElem (by omega)
    have lb := lat_byte (l := D.take i) g.cl (by rw [htl]; exact l) D[i] (by omega)
    rw [htl] at lb
    obtain ⟨a, q, a2, H2, happ, l2, keep2, n2, c2⟩ := lb
    cases q
    rw [← htk] at l2
    have hub1 : ubs [D[i]] = [eb D[i]] := rfl
    have haf : afirst (H.push (.cells [eb D[i]] .ex 1)) 1 1 (.slice (some ⟨H.n, 0, none⟩) 1 1) = some [eb D[i]] := by
      simp [afirst, cellsOf_new, acut]
    simp [c62_0, hi', aidx_of hi3, fH, apart, hg', hlt1, hlt, fil, hub1, alen, haf, happ, e1, -Int.natCast_add]
    have g3 : Grr H1 H2 := ⟨by have := g.n; omega, c2, fun y ob e => keep2 y ob (g.m y ob e) (fun q => by have := hnm y q; have := (hc1 y ob e).1; omega)⟩
    exact ⟨⟨i + 1, H2, some (H.n + 1), _⟩, by show 32 - (i + 1) < 32 - i; omega, ⟨by show i + 1 ≤ 32; omega, g3, l2, fun y e => by cases e; have := g.n; omega⟩, ⟨by have := g3.n; show h.n ≤ H2.n; omega, Nat.le_refl _, fun _ _ e => e, c2⟩, .ptr (by have := g3.n; show h.n < H2.n; omega), ⟨rfl, l2.below c2⟩, rfl, .int⟩
  · have hie : i = 32 := by omega
    subst hie
    rw [List.take_of_length_le (by omega)] at l
    have sl : Sl eb H (.slice a0 32 32) D := LAt.sl (n := 32) l
    obtain ⟨b, o, cap, cs, m, e, hv, hcl2, hle, hin, hgt⟩ : ∃ b o cap cs m e, Value.slice a0 32 32 = .slice (some ⟨b, o, none⟩) D.length cap ∧ H.cellsOf b = some (cs, m, e) ∧ D.length ≤ cap ∧ (0 < D.length → o + D.length ≤ cs.length) ∧ ∀ i (hi : i < D.length), cs[o + i]? = some (eb D[i]) := by
      rcases sl with ⟨_, _, q⟩ | q
      · rw [q] at hD; cases hD
      · exact q
    have hf : afirst H 1 32 (.slice a0 32 32) = some (ubs D) := by
      have := sl_first sl (by omega)
      rw [hD] at this
      exact this
    simp only [Value.slice.injEq] at hv
    obtain ⟨rfl, -, -⟩ := hv
    simp [c62_0, hf, abytes_ubs, bs_mk]
    exact g1.ext.trans g.ext
/-- or'd from the left -/
def orN (D E : List UInt8) : Nat → UInt8
  | 0 => 0
  | i + 1 => orN D E i ||| (D.getD i 0 ^^^ E.getD i 0)
theorem orN_zero (D E : List UInt8) : ∀ i, orN D E i = 0 ↔ ∀ j, j < i → D.getD j 0 = E.getD j 0
  | 0 => by simp [orN]
  | i + 1 => by
    have ih := orN_zero D E i
    have h1 : orN D E (i + 1) = 0 ↔ orN D E i = 0 ∧ (D.getD i 0 ^^^ E.getD i 0) = 0 := by
      show (orN D E i ||| (D.getD i 0 ^^^ E.getD i 0)) = 0 ↔ _
      generalize orN D E i = p
      generalize D.getD i 0 ^^^ E.getD i 0 = q
      simp [UInt8.or_eq_zero_iff]
    have h2 : (D.getD i 0 ^^^ E.getD i 0) = 0 ↔ D.getD i 0 = E.getD i 0 := by simp
    rw [h1, h2, ih]
    constructor
    · rintro ⟨q1, q2⟩ j hj
      by_cases e : j = i
      · rw [e]; exact q2
      · exact q1 j (by omega)
    · exact fun q => ⟨fun j hj => q j (by omega), q i (by omega)⟩
theorem orN_eq {D E : List UInt8} (hD : D.length = 32) (hE : E.length = 32) : orN D E 32 = 0 ↔ D = E := by
  rw [orN_zero]
  constructor
  · intro q
    refine List.ext_getElem (by omega) fun i h1 h2 => ?_
    have := q i (by omega)
    simpa [List.getD, List.getElem?_eq_getElem h1, List.getElem?_eq_getElem h2] using this
  · rintro rfl j _
    rfl
theorem equal_ok (D E : List UInt8) (hD : D.length = 32) (hE : E.length = 32) (h : Heap) : ACalls Tryz.prog 65 [.agg (ubs D).toArray, .agg (ubs E).toArray] h fun v h' => v = .bool (decide (D = E)) ∧ h' = h := by
  refine ACalls.same .bool (acalls_of mix Tryz.func65 k65 n65 (by simp) fun hcl hb => ?_)
  have hc1 : (h.push (.cells (ubs D) .ex 1)).Closed := closed_push hcl ubs_bel
  have g1 : Grr h (h.push (.cells (ubs D) .ex 1)) := (Grr.refl hcl).push ubs_bel
  have g2 := g1.push (o := .cells (ubs E) .ex 1) ubs_bel
  have g12 : Grr (h.push (.cells (ubs D) .ex 1)) ((h.push (.cells (ubs D) .ex 1)).push (.cells (ubs E) .ex 1)) := (Grr.refl hc1).push ubs_bel
  have f1 := cellsOf_keep g12.m (cellsOf_new h (ubs D) .ex 1)
  have f2 := cellsOf_new (h.push (.cells (ubs D) .ex 1)) (ubs E) .ex 1
  simp only [c65, s_seq, s_ops]
  simp [m_ubs]
  have hn2 : ((h.push (.cells (ubs D) .ex 1)).push (.cells (ubs E) .ex 1)).n = h.n + 1 + 1 := rfl
  have hn1 : (h.push (.cells (ubs D) .ex 1)).n = h.n + 1 := rfl
  rw [hn1] at f2
  generalize (h.push (.cells (ubs D) .ex 1)).push (.cells (ubs E) .ex 1) = H at *
  refine awp_loop_of (α := Nat) (fun i => i ≤ 32)
    (fun i => [(2, .pointer (some ⟨h.n, 0, none⟩)), (3, .pointer (some ⟨h.n + 1, 0, none⟩)), (5, .int .u8 ((orN D E i).toNat : Int)), (7, .int .i64 i)]) (fun _ => H) (fun i => 32 - i) 0
    (Nat.zero_le _) ⟨by omega, Nat.le_refl _, fun _ _ e => e, g2.cl⟩ (by simp; exact ⟨.ptr (by show h.n < H.n; omega), .ptr (by show h.n + 1 < H.n; omega), ⟨rfl, .int⟩, .int⟩) ?_
  intro i hi
  by_cases hi3 : i < 32
  · have hi' : (i : Int) < 32 := by omega
    have gD : (ubs D)[i]? = some (.int .u8 ((D.getD i 0).toNat : Int)) := by rw [ubs_get (by omega)]; simp [List.getD, show i < D.length by omega]
    have gE : (ubs E)[i]? = some (.int .u8 ((E.getD i 0).toNat : Int)) := by rw [ubs_get (by omega)]; simp [List.getD, show i < E.length by omega]
    have hor : orN D E (i + 1) = orN D E i ||| (D.getD i 0 ^^^ E.getD i 0) := rfl
    have e1 : IntKind.i64.wrap ((i : Int) + 1) = ((i + 1 : Nat) : Int) := by rw [IntWalk.i64_in _ (by omega)]; omega
    generalize D.getD i 0 = x at *
    generalize E.getD i 0 = y at *
    have hx : abits .xor .u8 (x.toNat : Int) (y.toNat : Int) = ((x ^^^ y).toNat : Int) := y_xor x y
    have ho : abits .or .u8 ((orN D E i).toNat : Int) ((x ^^^ y).toNat : Int) = ((orN D E (i + 1)).toNat : Int) := by rw [hor]; exact y_or _ _
    simp [c65_0, hi', aidx_of hi3, f1, f2, apart, gD, gE, hx, ho, e1, -Int.natCast_add, -UInt8.toNat_xor, -UInt8.toNat_or]
    exact ⟨i + 1, by omega, by omega, Heap.Sub.refl g2.cl |>.weak (by omega), .ptr (by show h.n < H.n; omega), .ptr (by show h.n + 1 < H.n; omega), ⟨rfl, .int⟩, rfl, .int⟩
  · have hie : i = 32 := by omega
    subst hie
    have hz : ((orN D E 32).toNat : Int) = 0 ↔ D = E := by
      rw [← orN_eq hD hE]
      constructor
      · intro q
        exact UInt8.toNat_inj.1 (by simpa using q)
      · intro q; rw [q]; rfl
    simp [c65_0, hz]
    exact ⟨by rw [← hz]; omega, g2.ext⟩


def c61 : AC := .seq (.ops [⟨ some 4, none, .alloc (zl .u8 32) ⟩]) (.seq (.seq (.ops [⟨ some 8, none, .mv (.tmp 0) ⟩, ⟨ some 9, none, .lenS true (.tmp 8) ⟩, ⟨ some 10, none, .bin .gtr (.tmp 9) (.const (.int .i64 64)) ⟩]) (.cond (.tmp 10) (.seq (.ops [⟨ some 11, none, .mv (.tmp 0) ⟩, ⟨ some 12, none, .buildS 1 [.string ⟨ ⟨[] ⟩ ⟩] [(0, 1, .tmp 11)] ⟩, ⟨ some 13, none, .call 72 [.tmp 12] ⟩, ⟨ some 5, none, .alloc (zl .u8 32) ⟩, ⟨ none, none, .store 32 (.tmp 5) (.tmp 13) ⟩]) (.ops [⟨ some 14, none, .slA 32 1 (.tmp 5) none none none ⟩, ⟨ some 15, none, .toStr (.tmp 14) ⟩, ⟨ some 0, none, .mv (.tmp 15) ⟩])) .skip)) (.seq (.ops [⟨ some 16, none, .call 66 [] ⟩, ⟨ some 6, none, .mv (.tmp 16) ⟩]) (.seq (.ops [⟨ some 17, none, .mv (.tmp 6) ⟩, ⟨ some 18, none, .mv (.tmp 0) ⟩, ⟨ some 19, none, .call 99 [.tmp 18, .const (.int .u8 54)] ⟩, ⟨ some 20, none, .buildS 1 [.string ⟨ ⟨[] ⟩ ⟩] [(0, 1, .tmp 19)] ⟩, ⟨ some 21, none, .call 70 [.tmp 17, .tmp 20] ⟩]) (.seq (.ops [⟨ some 22, none, .mv (.tmp 6) ⟩, ⟨ some 23, none, .mv (.tmp 1) ⟩, ⟨ some 24, none, .call 70 [.tmp 22, .tmp 23] ⟩]) (.seq (.ops [⟨ some 25, none, .mv (.tmp 6) ⟩, ⟨ some 26, none, .call 71 [.tmp 25] ⟩, ⟨ some 7, none, .alloc (zl .u8 32) ⟩, ⟨ none, none, .store 32 (.tmp 7) (.tmp 26) ⟩]) (.seq (.draw [([⟨ some 27, none, .mv (.tmp 0) ⟩, ⟨ some 29, none, .slA 32 1 (.tmp 7) none none none ⟩, ⟨ some 30, none, .toStr (.tmp 29) ⟩], [⟨ some 28, none, .call 99 [.tmp 27, .const (.int .u8 92)] ⟩], [⟨ some 30, none, .toStr (.tmp 29) ⟩]), ([], [⟨ some 31, none, .buildS 2 [.string ⟨ ⟨[] ⟩ ⟩, .string ⟨ ⟨[] ⟩ ⟩] [(0, 1, .tmp 28), (1, 1, .tmp 30)] ⟩], []), ([], [⟨ some 32, none, .call 72 [.tmp 31] ⟩], []), ([], [⟨ none, none, .store 32 (.tmp 4) (.tmp 32) ⟩], []), ([], [], [])]) .ret))))))
theorem k61 : compR Tryz.prog Tryz.f61 = some (c61, [.c 4 (some 32)]) := by kernel_rfl
theorem n61 : Tryz.f61.ntmps = 33 := by kernel_rfl
def c20_0 : AC := .seq (.seq (.ops [⟨ some 20, none, .mv (.tmp 9) ⟩, ⟨ some 21, none, .bin .lss (.tmp 20) (.const (.int .i64 64)) ⟩]) (.cond (.tmp 21) .skip (.exit 0))) (.seq (.block 1 (.seq (.ops [⟨ some 10, none, .mv (.const (.int .u8 0)) ⟩]) (.seq (.seq (.ops [⟨ some 24, none, .mv (.tmp 9) ⟩, ⟨ some 25, none, .mv (.tmp 1) ⟩, ⟨ some 26, none, .lenS true (.tmp 25) ⟩, ⟨ some 27, none, .bin .lss (.tmp 24) (.tmp 26) ⟩]) (.cond (.tmp 27) (.ops [⟨ some 28, none, .mv (.tmp 1) ⟩, ⟨ some 29, none, .mv (.tmp 9) ⟩, ⟨ some 30, none, .iStr (.tmp 28) (.tmp 29) ⟩, ⟨ some 10, none, .mv (.tmp 30) ⟩]) .skip)) (.seq (.ops [⟨ some 31, none, .mv (.tmp 7) ⟩, ⟨ some 32, none, .mv (.tmp 10) ⟩, ⟨ some 33, none, .bin .xor (.tmp 32) (.const (.int .u8 54)) ⟩, ⟨ some 34, none, .buildS 1 [.int .u8 0] [(0, 1, .tmp 33)] ⟩, ⟨ some 35, none, .app 1 1 5 (.tmp 31) (.tmp 34) ⟩, ⟨ some 7, none, .mv (.tmp 35) ⟩]) (.ops [⟨ some 36, none, .mv (.tmp 8) ⟩, ⟨ some 37, none, .mv (.tmp 10) ⟩, ⟨ some 38, none, .bin .xor (.tmp 37) (.const (.int .u8 92)) ⟩, ⟨ some 39, none, .buildS 1 [.int .u8 0] [(0, 1, .tmp 38)] ⟩, ⟨ some 40, none, .app 1 1 5 (.tmp 36) (.tmp 39) ⟩, ⟨ some 8, none, .mv (.tmp 40) ⟩]))))) (.ops [⟨ some 22, none, .mv (.tmp 9) ⟩, ⟨ some 23, none, .bin .add (.tmp 22) (.const (.int .i64 1)) ⟩, ⟨ some 9, none, .mv (.tmp 23) ⟩]))
def c20 : AC := .seq (.ops [⟨ some 3, none, .box (.tmp 0) ⟩, ⟨ some 6, none, .alloc (zl .u8 32) ⟩]) (.seq (.seq (.ops [⟨ some 11, none, .mv (.tmp 1) ⟩, ⟨ some 12, none, .lenS true (.tmp 11) ⟩, ⟨ some 13, none, .bin .gtr (.tmp 12) (.const (.int .i64 64)) ⟩]) (.cond (.tmp 13) (.ops [⟨ some 14, none, .load (some 2) (.tmp 3) ⟩, ⟨ some 15, none, .mv (.tmp 1) ⟩, ⟨ some 16, none, .call 63 [.tmp 14, .tmp 15] ⟩, ⟨ some 17, none, .call 62 [.tmp 16] ⟩, ⟨ some 1, none, .mv (.tmp 17) ⟩]) .skip)) (.seq (.ops [⟨ some 18, none, .buildS 0 [] [] ⟩, ⟨ some 19, none, .buildS 0 [] [] ⟩, ⟨ some 7, none, .mv (.tmp 18) ⟩, ⟨ some 8, none, .mv (.tmp 19) ⟩]) (.seq (.seq (.ops [⟨ some 9, none, .mv (.const (.int .i64 0)) ⟩]) (.block 0 (.loop c20_0))) (.seq (.draw [([⟨ some 41, none, .load (some 2) (.tmp 3) ⟩, ⟨ some 42, none, .mv (.tmp 8) ⟩, ⟨ some 43, none, .toStr (.tmp 42) ⟩, ⟨ some 44, none, .load (some 2) (.tmp 3) ⟩, ⟨ some 45, none, .mv (.tmp 7) ⟩, ⟨ some 46, none, .toStr (.tmp 45) ⟩, ⟨ some 47, none, .mv (.tmp 2) ⟩, ⟨ some 48, none, .bin .add (.tmp 46) (.tmp 47) ⟩], [⟨ some 49, none, .call 63 [.tmp 44, .tmp 48] ⟩], [⟨ some 41, none, .load (some 2) (.tmp 3) ⟩, ⟨ some 43, none, .toStr (.tmp 42) ⟩]), ([], [⟨ some 50, none, .call 62 [.tmp 49] ⟩], [⟨ some 41, none, .load (some 2) (.tmp 3) ⟩, ⟨ some 43, none, .toStr (.tmp 42) ⟩]), ([⟨ some 51, none, .bin .add (.tmp 43) (.tmp 50) ⟩], [⟨ some 52, none, .call 63 [.tmp 41, .tmp 51] ⟩], []), ([], [⟨ none, none, .store 32 (.tmp 6) (.tmp 52) ⟩], []), ([], [], [])]) .ret))))
theorem k20 : compR Tryz.prog Tryz.f20 = some (c20, [.c 6 (some 32)]) := by kernel_rfl
theorem n20 : Tryz.f20.ntmps = 53 := by kernel_rfl
/-- the key, or its digest -/
def keyV (K : List UInt8) : List UInt8 := if 64 < K.length then shaB K else K
theorem keyV_len (K : List UInt8) : (keyV K).length ≤ 64 := by
  unfold keyV
  split
  · rw [shaB_len]; omega
  · omega
/-- the tag -/
def macB (K T : List UInt8) : List UInt8 := shaB ((keyB (keyV K)).map (· ^^^ 92) ++ shaB ((keyB (keyV K)).map (· ^^^ 54) ++ T))
theorem macB_len (K T : List UInt8) : (macB K T).length = 32 := shaB_len _
theorem writeL_ok {h0 : Heap} (b : Nat) (nm : Option Nat) (T : List UInt8) (l : List (List UInt8)) (v : Value) (h : Heap) (hd : Dl h0 b nm T h) (hl : Sl enS h0 v l) (hn : T.length + l.flatten.length ≤ 50000000) (hln : l.length ≤ 1000000) :
    ACalls Tryz.prog 70 [.pointer (some ⟨b, 0, none⟩), v] h fun r h' => r = .tuple #[] ∧ ∃ nm', Dl h0 b nm' (T ++ l.flatten) h' := by
  have hcl := hd.gr.cl
  have key : ∀ H, Fr h b nm H → ∀ y ob, h0.m y = some ob → H.m y = some ob := fun H hF y ob e => hF.2 y ob (hd.gr.m y ob e) (by
    have := (hd.c0 y ob e).1
    have := hd.b0
    omega) (fun e' => by
    have := (hd.c0 y ob e).1
    have := hd.n0 y e'
    omega)
  refine (write_ok b nm T l v h hd.d (fun H hF => hl.keep (key H hF)) hn hln).mono' fun r h' hc' _ q => ?_
  obtain ⟨hr, nm', q1, q2, q3⟩ := q
  refine ⟨hr, nm', ⟨hd.c0, hd.b0, ⟨Nat.le_trans hd.gr.n q2.1, hc', key h' q2⟩, q1, ?_⟩⟩
  intro y e'
  rcases q3 with q | ⟨z, h1, h2⟩
  · exact hd.n0 y (q ▸ e')
  · rw [h1] at e'; cases e'
    have := hd.gr.n
    omega
set_option maxHeartbeats 1000000 in
theorem mac_ok (K : List UInt8) (l : List (List UInt8)) (v : Value) (h : Heap) (hl : Sl enS h v l) (hK : K.length ≤ 1000000) (hn : l.flatten.length ≤ 1000000) (hln : l.length ≤ 100000) :
    ACalls Tryz.prog 61 [.string (bs K), v] h fun r h' => r = .agg (ubs (macB K l.flatten)).toArray ∧ h' = h := by
  refine ACalls.same ubs_below (acalls_ofR mix Tryz.func61 k61 n61 (by simp) fun hcl hb => ?_)
  have bl := Sl.below hl hcl
  obtain ⟨ad, c, rfl⟩ := Sl.form hl
  have fil : ∀ s, afill [.string (bs [])] [(0, 1, .string (bs s))] = some [.string (bs s)] := fun _ => rfl
  have g1 : Grr h (h.push (.cells (zl .u8 32) .ex 1)) := (Grr.refl hcl).push (fun x hx => by rw [List.eq_of_mem_replicate hx]; exact .int)
  have f1 := cellsOf_new h (zl .u8 32) .ex 1
  have hz := zl_len .u8 32
  have ab32 : abounds 32 32 none none none = some (0, 32, 32) := rfl
  simp only [c61, s_seq, s_ops]
  simp [hz, bs_lit, fil, bs_size]
  have b0 : VBelow (h.n + 1) (.slice ad l.length c) := bl.mono (Nat.le_succ _)
  have hl1 := hl.keep (h' := h.push (.cells (zl .u8 32) .ex 1)) g1.m
  have hn1 : (h.push (.cells (zl .u8 32) .ex 1)).n = h.n + 1 := rfl
  generalize h.push (.cells (zl .u8 32) .ex 1) = H1 at *
  refine cond_join (fun f H => f 0 = .string (bs (keyV K)) ∧ f 1 = .slice ad l.length c ∧ f 4 = .pointer (some ⟨h.n, 0, none⟩) ∧ Grr H1 H) ?_ ?_ ?_
  · intro hb
    have hb' : 64 < K.length := by
      have := of_decide_eq_true hb
      omega
    simp [bs_lit, fil]
    have hsl := sl_str H1 K
    have g2 : Grr H1 (H1.push (.cells [.string (bs K)] .ex 1)) := (Grr.refl g1.cl).push (fun x hx => by simp at hx; rw [hx]; exact .string)
    generalize H1.push (.cells [.string (bs K)] .ex 1) = H2 at *
    refine (sum_ok [K] _ _ hsl (by simpa using (by omega : K.length ≤ 50000000)) (by simp)).mono ?_
    rintro _ h9 ⟨rfl, e⟩
    rw [e]
    clear e h9
    have hfl : [K].flatten = K := by simp
    rw [hfl]
    have hul : (ubs (shaB K)).length = 32 := by rw [ubs_len, shaB_len]
    have hpp : aput (zl .u8 32) 0 (ubs (shaB K)) = ubs (shaB K) := aput_all _ _ (by rw [hul, hz])
    have hcD := acut_full hul
    simp [hz, cellsOf_at, mcells, set_at, hul, hpp, ab32, afirst, hcD, abytes_ubs, bs_mk]
    exact ⟨by unfold keyV; rw [if_pos hb'], g2.push ubs_bel⟩
  · intro hb
    have hb' : ¬ 64 < K.length := by
      have := of_decide_eq_false hb
      omega
    simp
    exact ⟨by unfold keyV; rw [if_neg hb'], Grr.refl g1.cl⟩
  · rintro f H ⟨p0, p1, p4, g⟩
    simp
    refine (dl_new _).mono ?_
    rintro _ H3 ⟨b, rfl, hd⟩
    simp [p0, p1, p4]
    refine (pad_ok (keyV K) 54 (keyV_len K) _).mono ?_
    rintro _ h9 ⟨rfl, e⟩
    rw [e]
    clear e h9
    have hkl : ((keyB (keyV K)).map (· ^^^ 54)).length = 64 := by rw [List.length_map, keyB_len _ (keyV_len K)]
    simp [bs_lit, fil]
    refine (write1_ok b none [] ((keyB (keyV K)).map (· ^^^ 54)) H3 hd (by rw [hkl]; simp)).mono ?_
    rintro _ H4 ⟨rfl, nm4, hd4, -, -⟩
    simp [p1]
    rw [List.nil_append] at hd4
    refine (writeL_ok b nm4 _ l _ _ hd4 (hl1.keep g.m) (by rw [hkl]; omega) (by omega)).mono ?_
    rintro _ H5 ⟨rfl, nm5, hd5⟩
    simp
    refine (dsum_ok b nm5 _ _ hd5.d (by rw [List.length_append, hkl]; omega)).mono ?_
    rintro _ h9 ⟨rfl, e⟩
    rw [e]
    clear e h9
    have hD1 : (shaB ((keyB (keyV K)).map (· ^^^ 54) ++ l.flatten)).length = 32 := shaB_len _
    have hmac : macB K l.flatten = shaB ((keyB (keyV K)).map (· ^^^ 92) ++ shaB ((keyB (keyV K)).map (· ^^^ 54) ++ l.flatten)) := rfl
    generalize shaB ((keyB (keyV K)).map (· ^^^ 54) ++ l.flatten) = D1 at *
    have hul : (ubs D1).length = 32 := by rw [ubs_len, hD1]
    have hpp : aput (zl .u8 32) 0 (ubs D1) = ubs D1 := aput_all _ _ (by rw [hul, hz])
    have hcD := acut_full hul
    have hd6 := dl_push hd5 (o := .cells (ubs D1) .ex 1) ubs_bel
    have g6 : Grr H1 (H5.push (.cells (ubs D1) .ex 1)) := ⟨Nat.le_trans g.n hd6.gr.n, hd6.gr.cl, fun y ob e => hd6.gr.m y ob (g.m y ob e)⟩
    have f6 := cellsOf_new H5 (ubs D1) .ex 1
    simp [p0, p4, hz, cellsOf_at, mcells, set_at, hul, hpp, ab32, afirst, hcD, abytes_ubs, bs_mk]
    generalize H5.push (.cells (ubs D1) .ex 1) = H6 at *
    refine (pad_ok (keyV K) 92 (keyV_len K) _).mono ?_
    rintro _ h9 ⟨rfl, e⟩
    rw [e]
    clear e h9
    have hk2 : ((keyB (keyV K)).map (· ^^^ 92)).length = 64 := by rw [List.length_map, keyB_len _ (keyV_len K)]
    generalize (keyB (keyV K)).map (· ^^^ 92) = P2 at *
    have fil2 : afill [.string (bs []), .string (bs [])] [(0, 1, .string (bs P2)), (1, 1, .string (bs D1))] = some [.string (bs P2), .string (bs D1)] := rfl
    simp [f6, hcD, afirst, abytes_ubs, bs_mk, bs_lit, fil2]
    have hsl := sl_strs2 H6 P2 D1
    have g7 : Grr H1 (H6.push (.cells [.string (bs P2), .string (bs D1)] .ex 1)) := g6.push (fun x hx => by simp at hx; rcases hx with rfl | rfl <;> exact .string)
    generalize H6.push (.cells [.string (bs P2), .string (bs D1)] .ex 1) = H7 at *
    refine (sum_ok [P2, D1] _ _ hsl (by simp only [List.flatten_cons, List.flatten_nil, List.append_nil, List.length_append]; omega) (by simp)).mono ?_
    rintro _ h9 ⟨rfl, e⟩
    rw [e]
    clear e h9
    have hfl : [P2, D1].flatten = P2 ++ D1 := by simp
    rw [hfl, ← hmac]
    have hmul : (ubs (macB K l.flatten)).length = 32 := by rw [ubs_len, macB_len]
    have hmp : aput (zl .u8 32) 0 (ubs (macB K l.flatten)) = ubs (macB K l.flatten) := aput_all _ _ (by rw [hmul, hz])
    have f7 := cellsOf_keep g7.m f1
    have hcM := acut_full hmul
    simp [p4, f7, m_ubs, hmul, hmp, hz, cellsOf_set, apart, hcM]
    exact Heap.Ext.setNew (g1.ext.trans g7.ext) hcl (Nat.le_refl _) _
theorem keyB_get (K : List UInt8) (i : Nat) (h : i < 64) : (keyB K).getD i 0 = if i < K.length then K.getD i 0 else 0 := by
  unfold keyB
  by_cases hi : i < K.length
  · rw [if_pos hi, List.getD, List.getD, List.getElem?_append_left hi]
  · rw [if_neg hi, List.getD, List.getElem?_append_right (by omega)]
    by_cases h2 : i - K.length < 64 - K.length
    · rw [List.getElem?_replicate, if_pos h2]; rfl
    · rw [List.getElem?_replicate, if_neg h2]; rfl
theorem lat_strM {H : Heap} {n : Nat} {nm : Option Nat} {v : Value} {P : List UInt8} (q : LAt H 1 nm v n (ubs P)) (hn : P.length = n) (h0 : 0 < n) : ∃ a, v = .slice (some a) n n ∧ afirst H 1 n (.slice (some a) n n) = some (ubs P) := by
  subst hn
  have sl : Sl eb H v P := LAt.sl q
  have hf := sl_first sl h0
  rcases sl with ⟨_, _, e⟩ | ⟨b, o, cap, cs, m, e, hv, _⟩
  · rw [e] at h0; cases h0
  · obtain ⟨a, ha⟩ := q.form
    rw [hv] at ha
    simp only [Value.slice.injEq] at ha
    obtain ⟨rfl, -, rfl⟩ := ha
    exact ⟨_, hv, by rw [hv] at hf; exact hf⟩
structure BM where
  i : Nat
  H : Heap
  n7 : Option Nat
  v7 : Value
  n8 : Option Nat
  v8 : Value
set_option maxHeartbeats 1000000 in
theorem refMac_ok (K T : List UInt8) (hK : K.length ≤ 1000000) (hT : T.length ≤ 900000) (Hv Kv : Value) (h : Heap) (hH : SlN h Hv hW) (hKv : SlN h Kv kW) :
    ACalls Tryz.prog 20 [.agg #[Hv, Kv], .string (bs K), .string (bs T)] h fun r h' => r = .agg (ubs (macB K T)).toArray ∧ h' = h := by
  refine ACalls.same ubs_below (acalls_ofR mix Tryz.func20 k20 n20 (by simp) fun hcl hb => ?_)
  have bH := Sl.below hH hcl
  have bK := Sl.below hKv hcl
  have hac : acut [Hv, Kv] 0 2 = some [Hv, Kv] := rfl
  have hz := zl_len .u8 32
  have g1 : Grr h (h.push (.cells [Hv, Kv] .ex 1)) := (Grr.refl hcl).push (fun x hx => by
    simp at hx
    rcases hx with rfl | rfl
    · exact bH.mono (Nat.le_succ _)
    · exact bK.mono (Nat.le_succ _))
  have g2 := g1.push (o := .cells (zl .u8 32) .ex 1) (fun x hx => by rw [List.eq_of_mem_replicate hx]; exact .int)
  have g12 : Grr (h.push (.cells [Hv, Kv] .ex 1)) ((h.push (.cells [Hv, Kv] .ex 1)).push (.cells (zl .u8 32) .ex 1)) := (Grr.refl g1.cl).push (fun x hx => by rw [List.eq_of_mem_replicate hx]; exact .int)
  have f1 := cellsOf_keep g12.m (cellsOf_new h [Hv, Kv] .ex 1)
  have f2 := cellsOf_new (h.push (.cells [Hv, Kv] .ex 1)) (zl .u8 32) .ex 1
  have hn1 : (h.push (.cells [Hv, Kv] .ex 1)).n = h.n + 1 := rfl
  have hn2 : ((h.push (.cells [Hv, Kv] .ex 1)).push (.cells (zl .u8 32) .ex 1)).n = h.n + 1 + 1 := rfl
  have hm2 : mcells (.agg #[Hv, Kv]) = some [Hv, Kv] := rfl
  simp only [c20, s_seq, s_ops]
  simp [hz, bs_lit, bs_size, hm2]
  rw [hn1] at f2
  have hH2 := hH.keep g2.m
  have hK2 := hKv.keep g2.m
  generalize (h.push (.cells [Hv, Kv] .ex 1)).push (.cells (zl .u8 32) .ex 1) = H2 at *
  refine cond_join (fun f H => f 1 = .string (bs (keyV K)) ∧ f 2 = .string (bs T) ∧ f 3 = .pointer (some ⟨h.n, 0, none⟩) ∧ f 6 = .pointer (some ⟨h.n + 1, 0, none⟩) ∧ H = H2) ?_ ?_ ?_
  · intro hb
    have hb' : 64 < K.length := by
      have := of_decide_eq_true hb
      omega
    simp [f1, apart, hac]
    refine (refSum_ok K (by omega) _ _ _ hH2 hK2).mono ?_
    rintro _ h9 ⟨rfl, e⟩
    rw [e]
    clear e h9
    simp
    refine (refBytes_ok (shaB K) (shaB_len _) _).mono ?_
    rintro _ h9 ⟨rfl, e⟩
    rw [e]
    clear e h9
    simp [keyV, hb']
  · intro hb
    have hb' : ¬ 64 < K.length := by
      have := of_decide_eq_false hb
      omega
    simp [keyV, hb']
  · rintro f H ⟨p1, p2, p3, p6, rfl⟩
    have fil0 : afill [] [] = some ([] : List Value) := rfl
    have hKl := keyV_len K
    simp [fil0]
    have gp : Grr H (H.push (.cells [] .ex 1)) := (Grr.refl g2.cl).push (fun x hx => by cases hx)
    have gp2 : Grr H ((H.push (.cells [] .ex 1)).push (.cells [] .ex 1)) := gp.push (fun x hx => by cases hx)
    have m8 := LAt.made (H.push (.cells [] .ex 1)) 1
    have m7 : LAt ((H.push (.cells [] .ex 1)).push (.cells [] .ex 1)) 1 (some H.n) (.slice (some ⟨H.n, 0, none⟩) 0 0) 0 [] := (LAt.made H 1).keep fun y e => by
      cases e
      rw [push_m, if_neg (by show H.n ≠ H.n + 1; omega)]
    have hnp : (H.push (.cells [] .ex 1)).n = H.n + 1 := rfl
    rw [hnp] at m8
    have hn3 : ((H.push (.cells [] .ex 1)).push (.cells [] .ex 1)).n = H.n + 1 + 1 := rfl
    generalize (H.push (.cells [] .ex 1)).push (.cells [] .ex 1) = H3 at *
    refine awp_loop_of (α := BM) (fun z => z.i ≤ 64 ∧ Grr H z.H ∧ LAt z.H 1 z.n7 z.v7 z.i (ubs (((keyB (keyV K)).take z.i).map (· ^^^ 54))) ∧ LAt z.H 1 z.n8 z.v8 z.i (ubs (((keyB (keyV K)).take z.i).map (· ^^^ 92))) ∧
        (∀ y, z.n7 = some y → H.n ≤ y) ∧ (∀ y, z.n8 = some y → H.n ≤ y) ∧ ∀ y, z.n7 = some y → z.n8 ≠ some y)
      (fun z => [(1, .string (bs (keyV K))), (2, .string (bs T)), (3, .pointer (some ⟨h.n, 0, none⟩)), (6, .pointer (some ⟨h.n + 1, 0, none⟩)), (7, z.v7), (8, z.v8), (9, .int .i64 z.i)]) (fun z => z.H) (fun z => 64 - z.i) ⟨0, H3, some H.n, .slice (some ⟨H.n, 0, none⟩) 0 0, some (H.n + 1), .slice (some ⟨H.n + 1, 0, none⟩) 0 0⟩
      ⟨Nat.zero_le _, gp2, m7, m8, fun y e => by cases e; exact Nat.le_refl _, fun y e => by cases e; exact Nat.le_succ _, fun y e => by cases e; simp⟩ ⟨by show h.n ≤ H3.n; omega, Nat.le_refl _, fun _ _ e => e, gp2.cl⟩
      (by simp [p1, p2, p3, p6]; exact ⟨.string, .string, .ptr (by show h.n < H3.n; omega), .ptr (by show h.n + 1 < H3.n; omega), m7.below gp2.cl, m8.below gp2.cl, .int⟩) ?_
    rintro ⟨i, HH, n7, v7, n8, v8⟩ ⟨hi, g, l7, l8, k7, k8, k19⟩
    dsimp only at hi g l7 l8 k7 k8 k19 ⊢
    have q3 : VBelow HH.n (.pointer (some ⟨h.n, 0, none⟩)) := .ptr (by have := g.n; show h.n < HH.n; omega)
    have q6 : VBelow HH.n (.pointer (some ⟨h.n + 1, 0, none⟩)) := .ptr (by have := g.n; show h.n + 1 < HH.n; omega)
    by_cases hi6 : i < 64
    · have hi' : (i : Int) < 64 := by omega
      have hget := keyB_get (keyV K) i hi6
      have hlen := keyB_len (keyV K) hKl
      have htk : (keyB (keyV K)).take (i + 1) = (keyB (keyV K)).take i ++ [(keyB (keyV K)).getD i 0] := by
        rw [List.take_succ_eq_append_getElem (by omega), List.getD, List.getElem?_eq_getElem (by omega)]; rfl
      have htl : ((keyB (keyV K)).take i).length = i := by rw [List.length_take]; omega
      have e1 : IntKind.i64.wrap ((i : Int) + 1) = ((i + 1 : Nat) : Int) := by rw [IntWalk.i64_in _ (by omega)]; omega
      simp only [c20_0]
      simp [hi', bs_size]
      refine cond_join (fun f H' => f 1 = .string (bs (keyV K)) ∧ f 2 = .string (bs T) ∧ f 3 = .pointer (some ⟨h.n, 0, none⟩) ∧ f 6 = .pointer (some ⟨h.n + 1, 0, none⟩) ∧ f 7 = v7 ∧ f 8 = v8 ∧ f 9 = .int .i64 i ∧ f 10 = .int .u8 (((keyB (keyV K)).getD i 0).toNat : Int) ∧ H' = HH) ?_ ?_ ?_
      · intro hb
        have hb' : i < (keyV K).length := by
          have := of_decide_eq_true hb
          omega
        rw [hget, if_pos hb']
        simp [bs_size, aidx_of hb', bs_data, hb']
      · intro hb
        have hb' : ¬ i < (keyV K).length := by
          have := of_decide_eq_false hb
          omega
        rw [hget, if_neg hb']
        simp
      · rintro f H' ⟨r1, r2, r3, r6, r7, r8, r9, r10, rfl⟩
        generalize (keyB (keyV K)).getD i 0 = x at *
        generalize hB : (keyB (keyV K)).take i = B at *
        have fil : ∀ c : UInt8, afill [.int .u8 0] [(0, 1, .int .u8 (c.toNat : Int))] = some (ubs [c]) := fun _ => rfl
        have x1 : abits .xor .u8 (x.toNat : Int) 54 = ((x ^^^ 54).toNat : Int) := y_xor x 54
        have x2 : abits .xor .u8 (x.toNat : Int) 92 = ((x ^^^ 92).toNat : Int) := y_xor x 92
        have lb := lat_byte (l := B.map (· ^^^ 54)) g.cl (by rw [List.length_map, htl]; exact l7) (x ^^^ 54) (by rw [List.length_map]; omega)
        rw [List.length_map, htl] at lb
        obtain ⟨a, q, a2, H4, happ, l4, keep4, n4, c4⟩ := lb
        cases q
        have g4 : Grr H H4 := ⟨by have := g.n; omega, c4, fun y ob e => keep4 y ob (g.m y ob e) (fun q => by have := k7 y q; have := (g2.cl y ob e).1; omega)⟩
        have l84 : LAt H4 1 n8 v8 i (ubs (B.map (· ^^^ 92))) := l8.keep fun y e => by
          subst e
          have hlt := l8.lt g.cl
          obtain ⟨ob, hob⟩ : ∃ ob, H'.m y = some ob := by
            rcases l8 with ⟨q, _⟩ | ⟨y', md, e, q, _, h3, _⟩
            · cases q
            · cases q; exact ⟨_, m_of_cells h3⟩
          rw [hob]
          exact keep4 y ob hob (fun q => k19 y q rfl)
        have lb := lat_byte (l := B.map (· ^^^ 92)) c4 (by rw [List.length_map, htl]; exact l84) (x ^^^ 92) (by rw [List.length_map]; omega)
        rw [List.length_map, htl] at lb
        obtain ⟨b, q, b2, H5, happ5, l5, keep5, n5, c5⟩ := lb
        cases q
        have g5 : Grr H H5 := ⟨by have := g4.n; omega, c5, fun y ob e => keep5 y ob (g4.m y ob e) (fun q => by have := k8 y q; have := (g2.cl y ob e).1; omega)⟩
        have l45 : LAt H5 1 (some (H'.n + 1)) (.slice a2 (i + 1) (i + 1)) (i + 1) (ubs (B.map (· ^^^ 54) ++ [x ^^^ 54])) := l4.keep fun y e => by
          cases e
          have hlt := l4.lt c4
          obtain ⟨ob, hob⟩ : ∃ ob, H4.m (H'.n + 1) = some ob := by
            rcases l4 with ⟨q, _⟩ | ⟨y', md, e, q, _, h3, _⟩
            · cases q
            · cases q; exact ⟨_, m_of_cells h3⟩
          rw [hob]
          exact keep5 _ ob hob (fun q => by
            rw [q] at l8
            have := l8.lt g.cl
            omega)
        have hub1 : ∀ c : UInt8, ubs [c] = [eb c] := fun _ => rfl
        have haf : ∀ (Z : Heap) (c : UInt8), afirst (Z.push (.cells [eb c] .ex 1)) 1 1 (.slice (some ⟨Z.n, 0, none⟩) 1 1) = some [eb c] := fun Z c => by
          simp [afirst, cellsOf_new, acut]
        have mp : ∀ y : UInt8, B.map (· ^^^ y) ++ [x ^^^ y] = ((B ++ [x]).map (· ^^^ y)) := fun y => by simp
        rw [mp] at l45 l5
        rw [← htk, List.map_take] at l45 l5
        simp [r7, r10, x1, fil, hub1, alen, haf, happ, r8, x2, happ5, r9, e1, r1, r2, r3, r6, -Int.natCast_add, -UInt8.toNat_xor]
        exact ⟨⟨i + 1, H5, some (H'.n + 1), .slice a2 (i + 1) (i + 1), some (H4.n + 1), .slice b2 (i + 1) (i + 1)⟩, by show 64 - (i + 1) < 64 - i; omega, ⟨by show i + 1 ≤ 64; omega, g5, l45, l5, fun y e => by cases e; have := g.n; omega, fun y e => by cases e; have := g4.n; omega, fun y e => by cases e; simp; omega⟩,
          ⟨by have := g5.n; show h.n ≤ H5.n; omega, Nat.le_refl _, fun _ _ e => e, c5⟩, .string, .string, q3.mono (by show H'.n ≤ H5.n; omega), q6.mono (by show H'.n ≤ H5.n; omega), ⟨rfl, l45.below c5⟩, ⟨rfl, l5.below c5⟩, rfl, .int⟩
    · have hie : i = 64 := by omega
      subst hie
      have hlen := keyB_len (keyV K) hKl
      rw [List.take_of_length_le (by omega)] at l7 l8
      obtain ⟨a7, rfl, h7⟩ := lat_strM l7 (by rw [List.length_map, hlen]) (by omega)
      obtain ⟨a8, rfl, h8⟩ := lat_strM l8 (by rw [List.length_map, hlen]) (by omega)
      have hP : ((keyB (keyV K)).map (· ^^^ 54)).length = 64 := by rw [List.length_map, hlen]
      have hO : ((keyB (keyV K)).map (· ^^^ 92)).length = 64 := by rw [List.length_map, hlen]
      have hmac : macB K T = shaB ((keyB (keyV K)).map (· ^^^ 92) ++ shaB ((keyB (keyV K)).map (· ^^^ 54) ++ T)) := rfl
      generalize (keyB (keyV K)).map (· ^^^ 54) = P1 at *
      generalize (keyB (keyV K)).map (· ^^^ 92) = P2 at *
      have f1H := cellsOf_keep g.m f1
      have f2H := cellsOf_keep g.m f2
      have s1 : P1.length + T.length ≤ 9223372036854775807 := by omega
      simp only [c20_0]
      simp [h7, h8, f1H, apart, hac, abytes_ubs, bs_mk, bs_size, bs_append, s1]
      refine (refSum_ok (P1 ++ T) (by rw [List.length_append]; omega) _ _ _ (hH2.keep g.m) (hK2.keep g.m)).mono ?_
      rintro _ h9 ⟨rfl, e⟩
      rw [e]
      clear e h9
      simp [h7, h8, f1H, apart, hac, abytes_ubs, bs_mk]
      refine (refBytes_ok _ (shaB_len _) _).mono ?_
      rintro _ h9 ⟨rfl, e⟩
      rw [e]
      clear e h9
      have hD1 : (shaB (P1 ++ T)).length = 32 := shaB_len _
      generalize shaB (P1 ++ T) = D1 at *
      have s2 : P2.length + D1.length ≤ 9223372036854775807 := by omega
      simp [h7, h8, f1H, apart, hac, abytes_ubs, bs_mk, bs_size, bs_append, s2]
      refine (refSum_ok (P2 ++ D1) (by rw [List.length_append]; omega) _ _ _ (hH2.keep g.m) (hK2.keep g.m)).mono ?_
      rintro _ h9 ⟨rfl, e⟩
      rw [e]
      clear e h9
      rw [← hmac]
      have hmul : (ubs (macB K T)).length = 32 := by rw [ubs_len, macB_len]
      have hmp : aput (zl .u8 32) 0 (ubs (macB K T)) = ubs (macB K T) := aput_all _ _ (by rw [hmul, hz])
      have hcM := acut_full hmul
      simp [f2H, m_ubs, hmul, hmp, hz, cellsOf_set, apart, hcM]
      exact Heap.Ext.setNew (g2.ext.trans g.ext) hcl (Nat.le_succ _) _


def c18 : AC := .seq (.ops [⟨ some 4, none, .mv (.const (.string ⟨ ⟨[] ⟩ ⟩)) ⟩]) (.seq (.ops [⟨ some 5, none, .mv (.tmp 0) ⟩, ⟨ some 6, none, .mv (.tmp 1) ⟩, ⟨ some 7, none, .buildS 1 [.string ⟨ ⟨[] ⟩ ⟩] [(0, 1, .tmp 6)] ⟩, ⟨ some 8, none, .call 61 [.tmp 5, .tmp 7] ⟩, ⟨ some 9, none, .call 46 [.tmp 8] ⟩, ⟨ some 10, none, .bin .add (.const (.string ⟨ ⟨[83, 73, 71, 78, 69, 68, 32] ⟩ ⟩)) (.tmp 9) ⟩, ⟨ some 11, none, .bin .add (.tmp 10) (.const (.string ⟨ ⟨[10] ⟩ ⟩)) ⟩, ⟨ some 12, none, .mv (.tmp 1) ⟩, ⟨ some 13, none, .bin .add (.tmp 11) (.tmp 12) ⟩, ⟨ some 4, none, .mv (.tmp 13) ⟩]) .ret)
theorem k18 : compF Tryz.prog Tryz.f18 = some (c18, [4]) := by kernel_rfl
theorem n18 : Tryz.f18.ntmps = 14 := by kernel_rfl
def c21 : AC := .seq (.ops [⟨ some 4, none, .mv (.const (.string ⟨ ⟨[] ⟩ ⟩)) ⟩, ⟨ some 5, none, .mv (.const (.int .i64 0)) ⟩]) (.seq (.ops [⟨ some 11, none, .mv (.tmp 1) ⟩, ⟨ some 12, none, .call 64 [.tmp 11, .const (.string ⟨ ⟨[83, 73, 71, 78, 69, 68, 32] ⟩ ⟩)] ⟩, ⟨ some 10, none, .mv (.tmp 12) ⟩, ⟨ some 13, none, .extr (.tmp 10) 0 ⟩, ⟨ some 14, none, .extr (.tmp 10) 1 ⟩, ⟨ some 6, none, .mv (.tmp 13) ⟩, ⟨ some 7, none, .mv (.tmp 14) ⟩]) (.seq (.seq (.ops [⟨ some 15, none, .mv (.tmp 7) ⟩, ⟨ some 16, none, .un .not (.tmp 15) ⟩, ⟨ some 17, none, .mv (.tmp 16) ⟩, ⟨ some 18, some (17, false), .mv (.tmp 6) ⟩, ⟨ some 19, some (17, false), .lenS true (.tmp 18) ⟩, ⟨ some 20, some (17, false), .bin .leq (.tmp 19) (.const (.int .i64 64)) ⟩, ⟨ some 21, none, .pick (.tmp 17) (.const (.bool true)) (.tmp 20) ⟩, ⟨ some 22, none, .mv (.tmp 21) ⟩, ⟨ some 23, some (22, false), .mv (.tmp 6) ⟩, ⟨ some 24, some (22, false), .iStr (.tmp 23) (.const (.int .i64 64)) ⟩, ⟨ some 25, some (22, false), .bin .neq (.tmp 24) (.const (.int .u8 10)) ⟩, ⟨ some 26, none, .pick (.tmp 22) (.const (.bool true)) (.tmp 25) ⟩]) (.cond (.tmp 26) (.seq (.ops [⟨ some 4, none, .mv (.const (.string ⟨ ⟨[] ⟩ ⟩)) ⟩, ⟨ some 5, none, .mv (.const (.int .i64 6)) ⟩]) .ret) .skip)) (.seq (.ops [⟨ some 28, none, .mv (.tmp 6) ⟩, ⟨ some 29, none, .slS (.tmp 28) none (some (.const (.int .i64 64))) ⟩, ⟨ some 30, none, .call 51 [.tmp 29] ⟩, ⟨ some 27, none, .mv (.tmp 30) ⟩, ⟨ some 31, none, .extr (.tmp 27) 0 ⟩, ⟨ some 32, none, .extr (.tmp 27) 1 ⟩, ⟨ some 8, none, .alloc (zl .u8 32) ⟩, ⟨ none, none, .store 32 (.tmp 8) (.tmp 31) ⟩, ⟨ some 7, none, .mv (.tmp 32) ⟩]) (.seq (.ops [⟨ some 33, none, .mv (.tmp 6) ⟩, ⟨ some 34, none, .slS (.tmp 33) (some (.const (.int .i64 65))) none ⟩, ⟨ some 9, none, .mv (.tmp 34) ⟩]) (.seq (.block 0 (.seq (.ops [⟨ some 36, none, .mv (.tmp 7) ⟩, ⟨ some 37, none, .un .not (.tmp 36) ⟩, ⟨ some 35, none, .mv (.tmp 37) ⟩]) (.cond (.tmp 35) (.seq (.ops [⟨ some 4, none, .mv (.const (.string ⟨ ⟨[] ⟩ ⟩)) ⟩, ⟨ some 5, none, .mv (.const (.int .i64 6)) ⟩]) .ret) (.seq (.draw [([⟨ some 39, none, .load (some 32) (.tmp 8) ⟩, ⟨ some 40, none, .mv (.tmp 0) ⟩, ⟨ some 41, none, .mv (.tmp 9) ⟩], [⟨ some 42, none, .buildS 1 [.string ⟨ ⟨[] ⟩ ⟩] [(0, 1, .tmp 41)] ⟩], [⟨ some 39, none, .load (some 32) (.tmp 8) ⟩]), ([], [⟨ some 43, none, .call 61 [.tmp 40, .tmp 42] ⟩], [⟨ some 39, none, .load (some 32) (.tmp 8) ⟩]), ([], [⟨ some 44, none, .call 65 [.tmp 39, .tmp 43] ⟩], []), ([⟨ some 45, none, .un .not (.tmp 44) ⟩, ⟨ some 38, none, .mv (.tmp 45) ⟩], [], [])]) (.cond (.tmp 38) (.seq (.ops [⟨ some 4, none, .mv (.const (.string ⟨ ⟨[] ⟩ ⟩)) ⟩, ⟨ some 5, none, .mv (.const (.int .i64 7)) ⟩]) .ret) .skip))))) (.seq (.ops [⟨ some 46, none, .mv (.tmp 9) ⟩, ⟨ some 4, none, .mv (.tmp 46) ⟩, ⟨ some 5, none, .mv (.const (.int .i64 0)) ⟩]) .ret))))))
theorem k21 : compF Tryz.prog Tryz.f21 = some (c21, [4, 5]) := by kernel_rfl
theorem n21 : Tryz.f21.ntmps = 47 := by kernel_rfl
def c19_0 : AC := .seq (.seq (.ops [⟨ some 6, none, .mv (.tmp 5) ⟩, ⟨ some 7, none, .bin .lss (.tmp 6) (.const (.int .i64 32)) ⟩]) (.cond (.tmp 7) .skip (.exit 0))) (.seq (.block 1 (.draw [([⟨ some 10, none, .mv (.tmp 4) ⟩, ⟨ some 11, none, .mv (.tmp 3) ⟩, ⟨ some 12, none, .mv (.tmp 5) ⟩, ⟨ some 13, none, .iAddrA 32 1 (.tmp 1) (.tmp 12) ⟩, ⟨ some 14, none, .load none (.tmp 13) ⟩, ⟨ some 15, none, .bin .quo (.tmp 14) (.const (.int .u8 16)) ⟩, ⟨ some 16, none, .mv (.tmp 5) ⟩, ⟨ some 17, none, .iAddrA 32 1 (.tmp 1) (.tmp 16) ⟩, ⟨ some 18, none, .load none (.tmp 17) ⟩, ⟨ some 19, none, .bin .quo (.tmp 18) (.const (.int .u8 16)) ⟩, ⟨ some 20, none, .bin .add (.tmp 19) (.const (.int .u8 1)) ⟩, ⟨ some 21, none, .slS (.tmp 11) (some (.tmp 15)) (some (.tmp 20)) ⟩, ⟨ some 22, none, .bin .add (.tmp 10) (.tmp 21) ⟩, ⟨ some 23, none, .mv (.tmp 3) ⟩, ⟨ some 24, none, .mv (.tmp 5) ⟩, ⟨ some 25, none, .iAddrA 32 1 (.tmp 1) (.tmp 24) ⟩, ⟨ some 26, none, .load none (.tmp 25) ⟩, ⟨ some 27, none, .bin .rem (.tmp 26) (.const (.int .u8 16)) ⟩, ⟨ some 28, none, .mv (.tmp 5) ⟩, ⟨ some 29, none, .iAddrA 32 1 (.tmp 1) (.tmp 28) ⟩, ⟨ some 30, none, .load none (.tmp 29) ⟩, ⟨ some 31, none, .bin .rem (.tmp 30) (.const (.int .u8 16)) ⟩, ⟨ some 32, none, .bin .add (.tmp 31) (.const (.int .u8 1)) ⟩, ⟨ some 33, none, .slS (.tmp 23) (some (.tmp 27)) (some (.tmp 32)) ⟩, ⟨ some 34, none, .bin .add (.tmp 22) (.tmp 33) ⟩], [⟨ some 4, none, .mv (.tmp 34) ⟩], []), ([], [], [])])) (.ops [⟨ some 8, none, .mv (.tmp 5) ⟩, ⟨ some 9, none, .bin .add (.tmp 8) (.const (.int .i64 1)) ⟩, ⟨ some 5, none, .mv (.tmp 9) ⟩]))
def c19 : AC := .seq (.ops [⟨ some 1, none, .box (.tmp 0) ⟩, ⟨ some 2, none, .mv (.const (.string ⟨ ⟨[] ⟩ ⟩)) ⟩]) (.seq (.ops [⟨ some 3, none, .mv (.const (.string ⟨ ⟨[48, 49, 50, 51, 52, 53, 54, 55, 56, 57, 97, 98, 99, 100, 101, 102] ⟩ ⟩)) ⟩]) (.seq (.ops [⟨ some 4, none, .mv (.const (.string ⟨ ⟨[] ⟩ ⟩)) ⟩]) (.seq (.seq (.ops [⟨ some 5, none, .mv (.const (.int .i64 0)) ⟩]) (.block 0 (.loop c19_0))) (.seq (.ops [⟨ some 35, none, .mv (.tmp 4) ⟩, ⟨ some 2, none, .mv (.tmp 35) ⟩]) .ret))))
theorem k19 : compF Tryz.prog Tryz.f19 = some (c19, [2]) := by kernel_rfl
theorem n19 : Tryz.f19.ntmps = 36 := by kernel_rfl
/-! texts signed and opened -/
variable [Nonempty GM]
def gP : List UInt8 := [83, 73, 71, 78, 69, 68, 32]
def signB (K T : List UInt8) : List UInt8 := gP ++ (hexB (macB K T) ++ 10 :: T)
theorem mac_hex (K T : List UInt8) : (hexB (macB K T)).length = 64 := by rw [hexB_len, macB_len]
theorem msign_ok (K T : List UInt8) (hK : K.length ≤ 100000) (hT : T.length ≤ 100000) (h : Heap) : ACalls Tryz.prog 18 [.string (bs K), .string (bs T)] h fun v h' => v = sv (signB K T) ∧ h' = h := by
  refine ACalls.same .string (acalls_of mix Tryz.func18 k18 n18 (by simp) fun hcl hb => ?_)
  have fil : ∀ s, afill [.string (bs [])] [(0, 1, .string (bs s))] = some [.string (bs s)] := fun _ => rfl
  have hgP : (⟨⟨[83, 73, 71, 78, 69, 68, 32]⟩⟩ : ByteArray) = bs gP := rfl
  have hgl : gP.length = 7 := rfl
  have hl := mac_hex K T
  have hsl := sl_str h T
  have e1 := (Heap.Ext.refl h).push hcl (.cells [.string (bs T)] .ex 1)
  simp [c18, hgP, bs_lit, fil]
  generalize h.push (.cells [.string (bs T)] .ex 1) = H1 at *
  refine (mac_ok K [T] _ H1 hsl (by omega) (by simp; omega) (by simp)).mono ?_
  rintro _ h9 ⟨rfl, e⟩
  rw [e]; clear e h9
  have hfl : [T].flatten = T := by simp
  rw [hfl]
  simp
  refine (hex_ok (macB K T) (macB_len _ _) H1).mono ?_
  rintro _ h9 ⟨rfl, e⟩
  rw [e]; clear e h9
  have z1 : 72 + T.length ≤ 9223372036854775807 := by omega
  simp [bs_size, bs_append, hgl, hl, z1]
  exact ⟨by simp [signB, sv], e1⟩
theorem hex_pB (s : List UInt8) (h : hexOk s) : ∀ i, i ≤ 32 → hexB (pB s i) = s.take (2 * i)
  | 0, _ => by simp [pB, hexB]
  | i + 1, hi => by
    have h1 := pv_ok _ (h.2 (2 * i) (by omega))
    have h2 := pv_ok _ (h.2 (2 * i + 1) (by omega))
    have n1 := h.2 (2 * i) (by omega)
    have n2 := h.2 (2 * i + 1) (by omega)
    have hl := h.1
    have t : s.take (2 * (i + 1)) = s.take (2 * i) ++ [s.getD (2 * i) 0] ++ [s.getD (2 * i + 1) 0] := by
      rw [show 2 * (i + 1) = 2 * i + 1 + 1 by omega, List.take_succ_eq_append_getElem (by omega), List.take_succ_eq_append_getElem (by omega)]
      simp [List.getD, show 2 * i < s.length by omega, show 2 * i + 1 < s.length by omega]
    rw [pB, hexB_app, hex_pB s h i (by omega), t]
    generalize s.getD (2 * i) 0 = ca at *
    generalize s.getD (2 * i + 1) 0 = cb at *
    obtain ⟨u, hu⟩ : ∃ u : Nat, pv ca = u := ⟨(pv ca).toNat, by omega⟩
    obtain ⟨w, hw⟩ : ∃ w : Nat, pv cb = w := ⟨(pv cb).toNat, by omega⟩
    rw [hu] at h1
    rw [hw] at h2
    rw [hu, hw]
    simp only [Int.toNat_natCast] at h1 h2 ⊢
    have e : (UInt8.ofNat (16 * u + w)).toNat = 16 * u + w := by simp; omega
    have e1 : hexB [UInt8.ofNat (16 * u + w)] = [dg ((UInt8.ofNat (16 * u + w)).toNat / 16), dg ((UInt8.ofNat (16 * u + w)).toNat % 16)] := rfl
    rw [e1, e, show (16 * u + w) / 16 = u by omega, show (16 * u + w) % 16 = w by omega, h1.2, h2.2]
    simp
theorem hex_parse (s : List UInt8) (h : hexOk s) : hexB (pB s 32) = s := by
  rw [hex_pB s h 32 (by omega), List.take_of_length_le (by rw [h.1]; omega)]
open Classical in
noncomputable def openV (K s : List UInt8) : List UInt8 × Int :=
  if s.take 7 = gP ∧ 64 < (s.drop 7).length ∧ (s.drop 7)[64]? = some 10 ∧ hexOk ((s.drop 7).take 64) then
    (if pB ((s.drop 7).take 64) 32 = macB K ((s.drop 7).drop 65) then ((s.drop 7).drop 65, 0) else ([], 7))
  else ([], 6)
theorem mopen_ok (K s : List UInt8) (hK : K.length ≤ 100000) (hs : s.length ≤ 100000) (h : Heap) : ACalls Tryz.prog 21 [.string (bs K), .string (bs s)] h fun v h' => v = .tuple #[sv (openV K s).1, .int .i64 (openV K s).2] ∧ h' = h := by
  refine ACalls.same (vb_tup2 .string .int) (acalls_of mix Tryz.func21 k21 n21 (by simp) fun hcl hb => ?_)
  have fil : ∀ s, afill [.string (bs [])] [(0, 1, .string (bs s))] = some [.string (bs s)] := fun _ => rfl
  have hgP : (⟨⟨[83, 73, 71, 78, 69, 68, 32]⟩⟩ : ByteArray) = bs gP := rfl
  have hgl : gP.length = 7 := rfl
  have hsv : ∀ l, sv l = .string (bs l) := fun _ => rfl
  have eH : h.Ext h := Heap.Ext.refl h
  simp only [c21, s_seq, s_ops]
  simp [hgP]
  refine (cutP_ok s gP h).mono ?_
  rintro _ h9 ⟨rfl, e⟩
  rw [e]; clear e h9
  by_cases p1 : s.take gP.length = gP
  case neg =>
    have hv : openV K s = ([], 6) := if_neg fun q => p1 q.1
    rw [hv]
    simp [aun, p1, hsv, bs_lit]
    exact eH
  have htr : trimP gP s = s.drop 7 := by unfold trimP; rw [if_pos p1]; rfl
  rw [htr]
  obtain ⟨w, hw⟩ : ∃ w, w = openV K s := ⟨_, rfl⟩
  rw [← hw]
  unfold openV at hw
  rw [hgl] at p1
  have hlt : (s.drop 7).length ≤ s.length := by rw [List.length_drop]; omega
  generalize s.drop 7 = t at *
  clear htr
  simp [aun, p1, hgl, hsv, bs_size]
  by_cases p2 : t.length ≤ 64
  · have p2' : (t.length : Int) ≤ 64 := by omega
    have p2'' : ¬ 64 < t.length := by omega
    rw [if_neg fun q => p2'' q.2.1] at hw
    subst hw
    simp [p2, p2', p2'', bs_lit]
    exact eH
  have p2' : ¬ (t.length : Int) ≤ 64 := by omega
  have p2'' : 64 < t.length := by omega
  have g1 : t[64]? = some t[64] := List.getElem?_eq_getElem p2''
  have iX : aidx (.int .i64 64) t.length = some 64 := aidx_of p2''
  simp [p2, p2', p2'', bs_size, bs_data, iX, g1]
  obtain ⟨c, hc⟩ : ∃ c, t[64] = c := ⟨_, rfl⟩
  rw [hc] at g1
  simp only [hc]
  by_cases p3 : c = 10
  case neg =>
    have p3' : ¬ (c.toNat : Int) = 10 := fun q => p3 (UInt8.toNat_inj.1 (by show c.toNat = 10; omega))
    have p3'' : ¬ c.toNat = 10 := fun q => p3 (UInt8.toNat_inj.1 q)
    rw [if_neg fun q => p3 (by simpa [g1] using q.2.2.1)] at hw
    subst hw
    simp [p3, p3', p3'', bs_lit]
    exact eH
  rw [p3] at g1
  rw [p3]
  have b1 : abounds t.length t.length none (some (.int .i64 ((64 : Nat) : Int))) none = some (0, 64, t.length) := abounds_hi (by omega)
  have b2 : abounds t.length t.length (some (.int .i64 ((65 : Nat) : Int))) none none = some (65, t.length, t.length) := abounds_lo (by omega) (Nat.le_refl _)
  have x1 : (bs t).extract 0 64 = bs (t.take 64) := by rw [bs_extract, List.drop_zero]
  have x2 : (bs t).extract 65 t.length = bs (t.drop 65) := by rw [bs_extract, List.take_of_length_le (Nat.le_refl _)]
  have b1' : abounds t.length t.length none (some (.int .i64 64)) none = some (0, 64, t.length) := b1
  have b2' : abounds t.length t.length (some (.int .i64 65)) none none = some (65, t.length, t.length) := b2
  simp [bs_size, b1', x1]
  refine (parse_ok (t.take 64) h).mono ?_
  rintro _ h9 ⟨rfl, e⟩
  rw [e]; clear e h9
  have hpl := parseV_len (t.take 64)
  have fz := cellsOf_new h (zl .u8 32) .ex 1
  have hz32 := zl_len .u8 32
  have hfb : afill (zl .u8 32) [] = some (zl .u8 32) := rfl
  have hput : aput (zl .u8 32) 0 (ubs (parseV (t.take 64)).1) = ubs (parseV (t.take 64)).1 := aput_all _ _ (by rw [ubs_len, hpl, hz32])
  have hac : acut (ubs (parseV (t.take 64)).1) 0 32 = some (ubs (parseV (t.take 64)).1) := acut_full (by rw [ubs_len, hpl])
  have hul : (ubs (parseV (t.take 64)).1).length = 32 := by rw [ubs_len, hpl]
  simp [hfb, fz, m_ubs, hul, hz32, hput, set_push, bs_size, b2', x2]
  have f1 := cellsOf_new h (ubs (parseV (t.take 64)).1) .ex 1
  have e1 := eH.push hcl (.cells (ubs (parseV (t.take 64)).1) .ex 1)
  have c1 : (h.push (.cells (ubs (parseV (t.take 64)).1) .ex 1)).Closed := closed_push hcl ubs_bel
  have n1 : (h.push (.cells (ubs (parseV (t.take 64)).1) .ex 1)).n = h.n + 1 := rfl
  generalize h.push (.cells (ubs (parseV (t.take 64)).1) .ex 1) = H1 at *
  by_cases p4 : hexOk (t.take 64)
  case neg =>
    have hv : parseV (t.take 64) = (z32, false) := if_neg p4
    rw [hv]
    rw [if_neg fun q => p4 q.2.2.2] at hw
    subst hw
    simp [aun, p4, bs_lit]
    exact e1
  have hv : parseV (t.take 64) = (pB (t.take 64) 32, true) := if_pos p4
  rw [hv] at f1 hac ⊢
  rw [if_pos ⟨p1, p2'', g1, p4⟩] at hw
  have hsl := sl_str H1 (t.drop 65)
  have f1' : ∀ o, (H1.push o).cellsOf h.n = some (ubs (pB (t.take 64) 32), .ex, 1) := fun o => by rw [cellsOf_ne (by omega)]; exact f1
  have e2 := e1.push hcl (.cells [.string (bs (t.drop 65))] .ex 1)
  simp [aun, p4, f1, f1', hac, apart, bs_lit, fil]
  have f2 := f1' (.cells [.string (bs (t.drop 65))] .ex 1)
  generalize H1.push (.cells [.string (bs (t.drop 65))] .ex 1) = H2 at *
  refine (mac_ok K [t.drop 65] _ H2 hsl (by omega) (by simp; omega) (by simp)).mono ?_
  rintro _ h9 ⟨rfl, e⟩
  rw [e]; clear e h9
  have hfl : [t.drop 65].flatten = t.drop 65 := by simp
  rw [hfl]
  simp [f2, hac, apart]
  refine (equal_ok (pB (t.take 64) 32) (macB K (t.drop 65)) (pB_len _ _) (macB_len _ _) H2).mono ?_
  rintro _ h9 ⟨rfl, e⟩
  rw [e]; clear e h9
  by_cases p5 : pB (t.take 64) 32 = macB K (t.drop 65)
  · rw [if_pos p5] at hw
    subst hw
    simp [aun, p5]
    exact e2
  · rw [if_neg p5] at hw
    subst hw
    simp [aun, p5, bs_lit]
    exact e2
theorem refHex_ok (D : List UInt8) (hD : D.length = 32) (h : Heap) : ACalls Tryz.prog 19 [.agg (ubs D).toArray] h fun v h' => v = .string (bs (hexB D)) ∧ h' = h := by
  refine ACalls.same .string (acalls_of mix Tryz.func19 k19 n19 (by simp) fun hcl hb => ?_)
  have hul : (ubs D).length = 32 := by rw [ubs_len, hD]
  have hc1 : (h.push (.cells (ubs D) .ex 1)).Closed := closed_push hcl ubs_bel
  have hcd : (⟨⟨[48, 49, 50, 51, 52, 53, 54, 55, 56, 57, 97, 98, 99, 100, 101, 102]⟩⟩ : ByteArray) = bs digs := rfl
  simp only [c19, s_seq, s_ops]
  simp [m_ubs, bs_lit]
  have f0 := cellsOf_new h (ubs D) .ex 1
  have e0 := (Heap.Ext.refl h).push hcl (.cells (ubs D) .ex 1)
  have hn0 : (h.push (.cells (ubs D) .ex 1)).n = h.n + 1 := rfl
  generalize h.push (.cells (ubs D) .ex 1) = H at *
  refine awp_loop_of (α := Nat) (fun i => i ≤ 32)
    (fun i => [(1, .pointer (some ⟨h.n, 0, none⟩)), (3, .string (bs digs)), (4, .string (bs (hexB (D.take i)))), (5, .int .i64 i)]) (fun _ => H) (fun i => 32 - i) 0
    (Nat.zero_le _) ⟨by omega, Nat.le_refl _, fun _ _ e => e, hc1⟩ (by simp; exact ⟨.ptr (by show h.n < H.n; omega), ⟨rfl, .string⟩, ⟨rfl, .string⟩, .int⟩) ?_
  intro i hi
  by_cases hi32 : i < 32
  · have hi' : (i : Int) < 32 := by omega
    have hg : (ubs D)[i]? = some (.int .u8 ((D.getD i 0).toNat : Int)) := by
      unfold ubs
      simp only [List.getElem?_map, List.getElem?_eq_getElem (show i < D.length by omega), List.getD]
      rfl
    have htk : D.take (i + 1) = D.take i ++ [D.getD i 0] := by
      rw [List.take_succ_eq_append_getElem (by omega), List.getD, List.getElem?_eq_getElem (by omega)]; rfl
    have hx1 : hexB (D.take (i + 1)) = hexB (D.take i) ++ [dg ((D.getD i 0).toNat / 16)] ++ [dg ((D.getD i 0).toNat % 16)] := by
      rw [htk, hexB_app]
      simp [hexB]
    have hlen : (hexB (D.take i)).length ≤ 64 := by rw [hexB_len, List.length_take]; omega
    have hc := (D.getD i 0).toNat_lt
    generalize (D.getD i 0).toNat = c at *
    have q1 : (c : Int).tdiv 16 = ((c / 16 : Nat) : Int) := tdivN c 16
    have q2 : (c : Int).tmod 16 = ((c % 16 : Nat) : Int) := tmodN c 16
    have w8 : ∀ n : Nat, n < 256 → IntKind.u8.wrap (n : Int) = (n : Int) := fun n hn => by unfold IntKind.wrap; simp [IntKind.bits, IntKind.signed]; omega
    have d1 := dig_cut (c / 16) (by omega)
    have d2 := dig_cut (c % 16) (by omega)
    have hu : c / 16 < 16 := by omega
    have hw : c % 16 < 16 := by omega
    generalize c / 16 = u at *
    generalize c % 16 = w at *
    have w1 := w8 u (by omega)
    have w2 : IntKind.u8.wrap ((u : Int) + 1) = ((u + 1 : Nat) : Int) := w8 (u + 1) (by omega)
    have w4 : IntKind.u8.wrap ((w : Int) + 1) = ((w + 1 : Nat) : Int) := w8 (w + 1) (by omega)
    have hds : (bs digs).size = 16 := rfl
    have b1 : abounds 16 16 (some (.int .u8 (u : Int))) (some (.int .u8 ((u + 1 : Nat) : Int))) none = some (u, u + 1, 16) := abounds_lohi (by omega) (by omega)
    have b2 : abounds 16 16 (some (.int .u8 (w : Int))) (some (.int .u8 ((w + 1 : Nat) : Int))) none = some (w, w + 1, 16) := abounds_lohi (by omega) (by omega)
    have s1 : (bs (hexB (D.take i))).size + (bs [dg u]).size ≤ 9223372036854775807 := by rw [bs_size, bs_size]; simp; omega
    have s2 : (bs (hexB (D.take i) ++ [dg u])).size + (bs [dg w]).size ≤ 9223372036854775807 := by rw [bs_size, bs_size]; simp; omega
    have e1 : IntKind.i64.wrap ((i : Int) + 1) = ((i + 1 : Nat) : Int) := by rw [IntWalk.i64_in _ (by omega)]; omega
    simp [c19_0, hi', aidx_of hi32, f0, apart, hg, q1, q2, w1, w2, w4, hds, b1, b2, bs_extract, d1, d2, s1, bs_append, s2, e1, -Int.natCast_add]
    exact ⟨i + 1, by omega, by omega, ⟨by omega, Nat.le_refl _, fun _ _ e => e, hc1⟩, .ptr (by show h.n < H.n; omega), .string, ⟨by rw [hx1]; simp, .string⟩, rfl, .int⟩
  · have hie : i = 32 := by omega
    subst hie
    have htk : D.take 32 = D := List.take_of_length_le (by omega)
    simp [c19_0, htk]
    exact e0

def c4_0 : AC := .seq (.seq (.ops [⟨ some 145, none, .mv (.tmp 17) ⟩, ⟨ some 146, none, .mv (.tmp 145) ⟩, ⟨ some 147, some (146, true), .mv (.tmp 18) ⟩, ⟨ some 148, some (146, true), .bin .lss (.tmp 147) (.const (.int .i64 71)) ⟩, ⟨ some 149, none, .pick (.tmp 146) (.tmp 148) (.const (.bool false)) ⟩]) (.cond (.tmp 149) .skip (.exit 0))) (.seq (.block 1 (.ops [⟨ some 152, none, .mv (.tmp 16) ⟩, ⟨ some 153, none, .mv (.tmp 18) ⟩, ⟨ some 154, none, .iStr (.tmp 152) (.tmp 153) ⟩, ⟨ some 155, none, .bin .geq (.tmp 154) (.const (.int .u8 48)) ⟩, ⟨ some 156, none, .mv (.tmp 155) ⟩, ⟨ some 157, some (156, true), .mv (.tmp 16) ⟩, ⟨ some 158, some (156, true), .mv (.tmp 18) ⟩, ⟨ some 159, some (156, true), .iStr (.tmp 157) (.tmp 158) ⟩, ⟨ some 160, some (156, true), .bin .leq (.tmp 159) (.const (.int .u8 57)) ⟩, ⟨ some 161, none, .pick (.tmp 156) (.tmp 160) (.const (.bool false)) ⟩, ⟨ some 162, none, .mv (.tmp 161) ⟩, ⟨ some 163, some (162, false), .mv (.tmp 16) ⟩, ⟨ some 164, some (162, false), .mv (.tmp 18) ⟩, ⟨ some 165, some (162, false), .iStr (.tmp 163) (.tmp 164) ⟩, ⟨ some 166, some (162, false), .bin .geq (.tmp 165) (.const (.int .u8 97)) ⟩, ⟨ some 167, some (162, false), .mv (.tmp 166) ⟩, ⟨ some 168, some (167, true), .mv (.tmp 16) ⟩, ⟨ some 169, some (167, true), .mv (.tmp 18) ⟩, ⟨ some 170, some (167, true), .iStr (.tmp 168) (.tmp 169) ⟩, ⟨ some 171, some (167, true), .bin .leq (.tmp 170) (.const (.int .u8 102)) ⟩, ⟨ some 172, some (162, false), .pick (.tmp 167) (.tmp 171) (.const (.bool false)) ⟩, ⟨ some 173, none, .pick (.tmp 162) (.const (.bool true)) (.tmp 172) ⟩, ⟨ some 17, none, .mv (.tmp 173) ⟩])) (.ops [⟨ some 150, none, .mv (.tmp 18) ⟩, ⟨ some 151, none, .bin .add (.tmp 150) (.const (.int .i64 1)) ⟩, ⟨ some 18, none, .mv (.tmp 151) ⟩]))
def c4 : AC := .seq (.ops [⟨ some 5, none, .box (.tmp 2) ⟩, ⟨ some 6, none, .mv (.const (.bool false)) ⟩]) (.seq (.seq (.ops [⟨ some 19, none, .call 11 [] ⟩, ⟨ some 20, none, .un .not (.tmp 19) ⟩]) (.cond (.tmp 20) (.seq (.ops [⟨ some 6, none, .mv (.const (.bool false)) ⟩]) .ret) .skip)) (.seq (.seq (.ops [⟨ some 21, none, .mv (.tmp 0) ⟩, ⟨ some 22, none, .lenS true (.tmp 21) ⟩, ⟨ some 23, none, .bin .gtr (.tmp 22) (.const (.int .i64 300)) ⟩, ⟨ some 24, none, .mv (.tmp 23) ⟩, ⟨ some 25, some (24, false), .mv (.tmp 1) ⟩, ⟨ some 26, some (24, false), .lenS true (.tmp 25) ⟩, ⟨ some 27, some (24, false), .bin .gtr (.tmp 26) (.const (.int .i64 300)) ⟩, ⟨ some 28, none, .pick (.tmp 24) (.const (.bool true)) (.tmp 27) ⟩, ⟨ some 29, none, .mv (.tmp 28) ⟩, ⟨ some 30, some (29, false), .iAddrA 2 1 (.tmp 5) (.const (.int .i64 0)) ⟩, ⟨ some 31, some (29, false), .load none (.tmp 30) ⟩, ⟨ some 32, some (29, false), .lenS true (.tmp 31) ⟩, ⟨ some 33, some (29, false), .bin .gtr (.tmp 32) (.const (.int .i64 1000)) ⟩, ⟨ some 34, none, .pick (.tmp 29) (.const (.bool true)) (.tmp 33) ⟩, ⟨ some 35, none, .mv (.tmp 34) ⟩, ⟨ some 36, some (35, false), .iAddrA 2 1 (.tmp 5) (.const (.int .i64 1)) ⟩, ⟨ some 37, some (35, false), .load none (.tmp 36) ⟩, ⟨ some 38, some (35, false), .lenS true (.tmp 37) ⟩, ⟨ some 39, some (35, false), .bin .gtr (.tmp 38) (.const (.int .i64 1000)) ⟩, ⟨ some 40, none, .pick (.tmp 35) (.const (.bool true)) (.tmp 39) ⟩]) (.cond (.tmp 40) (.seq (.ops [⟨ some 6, none, .mv (.const (.bool true)) ⟩]) .ret) .skip)) (.seq (.ops [⟨ some 41, none, .call 17 [] ⟩, ⟨ some 7, none, .alloc [.slice none 0 0, .slice none 0 0] ⟩, ⟨ none, none, .store 2 (.tmp 7) (.tmp 41) ⟩]) (.seq (.ops [⟨ some 42, none, .mv (.tmp 0) ⟩, ⟨ some 43, none, .iAddrA 2 1 (.tmp 5) (.const (.int .i64 0)) ⟩, ⟨ some 44, none, .load none (.tmp 43) ⟩, ⟨ some 45, none, .call 18 [.tmp 42, .tmp 44] ⟩, ⟨ some 8, none, .mv (.tmp 45) ⟩]) (.seq (.seq (.draw [([⟨ some 46, none, .mv (.tmp 8) ⟩, ⟨ some 47, none, .load (some 2) (.tmp 7) ⟩, ⟨ some 48, none, .mv (.tmp 0) ⟩, ⟨ some 49, none, .iAddrA 2 1 (.tmp 5) (.const (.int .i64 0)) ⟩, ⟨ some 50, none, .load none (.tmp 49) ⟩, ⟨ some 55, none, .iAddrA 2 1 (.tmp 5) (.const (.int .i64 0)) ⟩, ⟨ some 56, none, .load none (.tmp 55) ⟩], [⟨ some 51, none, .call 20 [.tmp 47, .tmp 48, .tmp 50] ⟩], [⟨ some 56, none, .load none (.tmp 55) ⟩]), ([], [⟨ some 52, none, .call 19 [.tmp 51] ⟩], [⟨ some 56, none, .load none (.tmp 55) ⟩]), ([⟨ some 53, none, .bin .add (.const (.string ⟨ ⟨[83, 73, 71, 78, 69, 68, 32] ⟩ ⟩)) (.tmp 52) ⟩, ⟨ some 54, none, .bin .add (.tmp 53) (.const (.string ⟨ ⟨[10] ⟩ ⟩)) ⟩, ⟨ some 57, none, .bin .add (.tmp 54) (.tmp 56) ⟩, ⟨ some 58, none, .bin .neq (.tmp 46) (.tmp 57) ⟩], [], [])]) (.cond (.tmp 58) (.seq (.ops [⟨ some 6, none, .mv (.const (.bool false)) ⟩]) .ret) .skip)) (.seq (.ops [⟨ some 60, none, .mv (.tmp 0) ⟩, ⟨ some 61, none, .mv (.tmp 8) ⟩, ⟨ some 62, none, .call 21 [.tmp 60, .tmp 61] ⟩, ⟨ some 59, none, .mv (.tmp 62) ⟩, ⟨ some 63, none, .extr (.tmp 59) 0 ⟩, ⟨ some 64, none, .extr (.tmp 59) 1 ⟩, ⟨ some 9, none, .mv (.tmp 63) ⟩, ⟨ some 10, none, .mv (.tmp 64) ⟩]) (.seq (.ops [⟨ some 66, none, .mv (.tmp 1) ⟩, ⟨ some 67, none, .mv (.tmp 8) ⟩, ⟨ some 68, none, .call 21 [.tmp 66, .tmp 67] ⟩, ⟨ some 65, none, .mv (.tmp 68) ⟩, ⟨ some 69, none, .extr (.tmp 65) 0 ⟩, ⟨ some 70, none, .extr (.tmp 65) 1 ⟩, ⟨ some 11, none, .mv (.tmp 69) ⟩, ⟨ some 12, none, .mv (.tmp 70) ⟩]) (.seq (.draw [([⟨ some 71, none, .load (some 2) (.tmp 7) ⟩, ⟨ some 72, none, .mv (.tmp 0) ⟩, ⟨ some 73, none, .iAddrA 2 1 (.tmp 5) (.const (.int .i64 0)) ⟩, ⟨ some 74, none, .load none (.tmp 73) ⟩, ⟨ some 76, none, .load (some 2) (.tmp 7) ⟩, ⟨ some 77, none, .mv (.tmp 1) ⟩, ⟨ some 78, none, .iAddrA 2 1 (.tmp 5) (.const (.int .i64 0)) ⟩, ⟨ some 79, none, .load none (.tmp 78) ⟩], [⟨ some 75, none, .call 20 [.tmp 71, .tmp 72, .tmp 74] ⟩], [⟨ some 76, none, .load (some 2) (.tmp 7) ⟩, ⟨ some 79, none, .load none (.tmp 78) ⟩]), ([], [⟨ some 80, none, .call 20 [.tmp 76, .tmp 77, .tmp 79] ⟩], []), ([⟨ some 81, none, .eqa false (ckl 32) (.tmp 75) (.tmp 80) ⟩, ⟨ some 13, none, .mv (.tmp 81) ⟩], [], [])]) (.seq (.seq (.ops [⟨ some 82, none, .mv (.tmp 9) ⟩, ⟨ some 83, none, .iAddrA 2 1 (.tmp 5) (.const (.int .i64 0)) ⟩, ⟨ some 84, none, .load none (.tmp 83) ⟩, ⟨ some 85, none, .bin .neq (.tmp 82) (.tmp 84) ⟩, ⟨ some 86, none, .mv (.tmp 85) ⟩, ⟨ some 87, some (86, false), .mv (.tmp 10) ⟩, ⟨ some 88, some (86, false), .bin .neq (.tmp 87) (.const (.int .i64 0)) ⟩, ⟨ some 89, none, .pick (.tmp 86) (.const (.bool true)) (.tmp 88) ⟩, ⟨ some 90, none, .mv (.tmp 89) ⟩, ⟨ some 91, some (90, false), .mv (.tmp 13) ⟩, ⟨ some 92, some (90, false), .mv (.tmp 91) ⟩, ⟨ some 93, some (92, true), .mv (.tmp 11) ⟩, ⟨ some 94, some (92, true), .iAddrA 2 1 (.tmp 5) (.const (.int .i64 0)) ⟩, ⟨ some 95, some (92, true), .load none (.tmp 94) ⟩, ⟨ some 96, some (92, true), .bin .neq (.tmp 93) (.tmp 95) ⟩, ⟨ some 97, some (92, true), .mv (.tmp 96) ⟩, ⟨ some 98, some (97, false), .mv (.tmp 12) ⟩, ⟨ some 99, some (97, false), .bin .neq (.tmp 98) (.const (.int .i64 0)) ⟩, ⟨ some 100, some (92, true), .pick (.tmp 97) (.const (.bool true)) (.tmp 99) ⟩, ⟨ some 101, some (90, false), .pick (.tmp 92) (.tmp 100) (.const (.bool false)) ⟩, ⟨ some 102, none, .pick (.tmp 90) (.const (.bool true)) (.tmp 101) ⟩, ⟨ some 103, none, .mv (.tmp 102) ⟩, ⟨ some 104, some (103, false), .mv (.tmp 13) ⟩, ⟨ some 105, some (103, false), .un .not (.tmp 104) ⟩, ⟨ some 106, some (103, false), .mv (.tmp 105) ⟩, ⟨ some 107, some (106, true), .mv (.tmp 11) ⟩, ⟨ some 108, some (106, true), .bin .neq (.tmp 107) (.const (.string ⟨ ⟨[] ⟩ ⟩)) ⟩, ⟨ some 109, some (106, true), .mv (.tmp 108) ⟩, ⟨ some 110, some (109, false), .mv (.tmp 12) ⟩, ⟨ some 111, some (109, false), .bin .neq (.tmp 110) (.const (.int .i64 7)) ⟩, ⟨ some 112, some (106, true), .pick (.tmp 109) (.const (.bool true)) (.tmp 111) ⟩, ⟨ some 113, some (103, false), .pick (.tmp 106) (.tmp 112) (.const (.bool false)) ⟩, ⟨ some 114, none, .pick (.tmp 103) (.const (.bool true)) (.tmp 113) ⟩]) (.cond (.tmp 114) (.seq (.ops [⟨ some 6, none, .mv (.const (.bool false)) ⟩]) .ret) .skip)) (.seq (.ops [⟨ some 116, none, .mv (.tmp 0) ⟩, ⟨ some 117, none, .iAddrA 2 1 (.tmp 5) (.const (.int .i64 1)) ⟩, ⟨ some 118, none, .load none (.tmp 117) ⟩, ⟨ some 119, none, .call 21 [.tmp 116, .tmp 118] ⟩, ⟨ some 115, none, .mv (.tmp 119) ⟩, ⟨ some 120, none, .extr (.tmp 115) 0 ⟩, ⟨ some 121, none, .extr (.tmp 115) 1 ⟩, ⟨ some 14, none, .mv (.tmp 120) ⟩, ⟨ some 15, none, .mv (.tmp 121) ⟩]) (.seq (.seq (.ops [⟨ some 122, none, .mv (.tmp 15) ⟩, ⟨ some 123, none, .bin .eql (.tmp 122) (.const (.int .i64 0)) ⟩]) (.cond (.tmp 123) (.seq (.draw [([⟨ some 124, none, .mv (.tmp 0) ⟩, ⟨ some 125, none, .mv (.tmp 14) ⟩, ⟨ some 127, none, .iAddrA 2 1 (.tmp 5) (.const (.int .i64 1)) ⟩, ⟨ some 128, none, .load none (.tmp 127) ⟩], [⟨ some 126, none, .call 18 [.tmp 124, .tmp 125] ⟩], [⟨ some 128, none, .load none (.tmp 127) ⟩]), ([⟨ some 129, none, .bin .eql (.tmp 126) (.tmp 128) ⟩, ⟨ some 6, none, .mv (.tmp 129) ⟩], [], [])]) .ret) .skip)) (.seq (.ops [⟨ some 130, none, .iAddrA 2 1 (.tmp 5) (.const (.int .i64 1)) ⟩, ⟨ some 131, none, .load none (.tmp 130) ⟩, ⟨ some 16, none, .mv (.tmp 131) ⟩]) (.seq (.ops [⟨ some 132, none, .mv (.tmp 16) ⟩, ⟨ some 133, none, .lenS true (.tmp 132) ⟩, ⟨ some 134, none, .bin .geq (.tmp 133) (.const (.int .i64 72)) ⟩, ⟨ some 135, none, .mv (.tmp 134) ⟩, ⟨ some 136, some (135, true), .mv (.tmp 16) ⟩, ⟨ some 137, some (135, true), .slS (.tmp 136) none (some (.const (.int .i64 7))) ⟩, ⟨ some 138, some (135, true), .bin .eql (.tmp 137) (.const (.string ⟨ ⟨[83, 73, 71, 78, 69, 68, 32] ⟩ ⟩)) ⟩, ⟨ some 139, none, .pick (.tmp 135) (.tmp 138) (.const (.bool false)) ⟩, ⟨ some 140, none, .mv (.tmp 139) ⟩, ⟨ some 141, some (140, true), .mv (.tmp 16) ⟩, ⟨ some 142, some (140, true), .iStr (.tmp 141) (.const (.int .i64 71)) ⟩, ⟨ some 143, some (140, true), .bin .eql (.tmp 142) (.const (.int .u8 10)) ⟩, ⟨ some 144, none, .pick (.tmp 140) (.tmp 143) (.const (.bool false)) ⟩, ⟨ some 17, none, .mv (.tmp 144) ⟩]) (.seq (.seq (.ops [⟨ some 18, none, .mv (.const (.int .i64 7)) ⟩]) (.block 0 (.loop c4_0))) (.seq (.ops [⟨ some 174, none, .mv (.tmp 14) ⟩, ⟨ some 175, none, .bin .eql (.tmp 174) (.const (.string ⟨ ⟨[] ⟩ ⟩)) ⟩, ⟨ some 176, none, .mv (.tmp 175) ⟩, ⟨ some 177, some (176, true), .mv (.tmp 15) ⟩, ⟨ some 178, some (176, true), .bin .eql (.tmp 177) (.const (.int .i64 7)) ⟩, ⟨ some 179, some (176, true), .mv (.tmp 17) ⟩, ⟨ some 180, some (176, true), .eqv false .bool (.tmp 178) (.tmp 179) ⟩, ⟨ some 181, none, .pick (.tmp 176) (.tmp 180) (.const (.bool false)) ⟩, ⟨ some 182, none, .mv (.tmp 181) ⟩, ⟨ some 183, some (182, true), .mv (.tmp 17) ⟩, ⟨ some 184, some (182, true), .mv (.tmp 183) ⟩, ⟨ some 185, some (184, false), .mv (.tmp 15) ⟩, ⟨ some 186, some (184, false), .bin .eql (.tmp 185) (.const (.int .i64 6)) ⟩, ⟨ some 187, some (182, true), .pick (.tmp 184) (.const (.bool true)) (.tmp 186) ⟩, ⟨ some 188, none, .pick (.tmp 182) (.tmp 187) (.const (.bool false)) ⟩, ⟨ some 6, none, .mv (.tmp 188) ⟩]) .ret)))))))))))))))
theorem k4 : compF Tryz.prog Tryz.f4 = some (c4, [6]) := by kernel_rfl
theorem n4 : Tryz.f4.ntmps = 189 := by kernel_rfl
/-! ManifestSigns -/
variable [Nonempty GM]
theorem hexdig_iff (c : UInt8) : 0 ≤ pv c ↔ (48 ≤ c.toNat ∧ c.toNat ≤ 57) ∨ (97 ≤ c.toNat ∧ c.toNat ≤ 102) := by
  have : ∀ n : Fin 256, 0 ≤ pv (UInt8.ofNat n.val) ↔ (48 ≤ (UInt8.ofNat n.val).toNat ∧ (UInt8.ofNat n.val).toNat ≤ 57) ∨ (97 ≤ (UInt8.ofNat n.val).toNat ∧ (UInt8.ofNat n.val).toNat ≤ 102) := by decide +kernel
  have h := this ⟨c.toNat, c.toNat_lt⟩
  simpa using h
theorem hexOk_hexB {D : List UInt8} (hD : D.length = 32) : hexOk (hexB D) := by
  by_cases q : hexOk (hexB D)
  · exact q
  · have h1 := parse_hex D hD
    unfold parseV at h1
    rw [if_neg q] at h1
    exact absurd (congrArg Prod.snd h1) (by simp)
theorem open_sign (K K0 T : List UInt8) : openV K (signB K0 T) = if macB K0 T = macB K T then (T, 0) else ([], 7) := by
  have hm := macB_len K0 T
  have hl := mac_hex K0 T
  have d7 : (signB K0 T).drop 7 = hexB (macB K0 T) ++ 10 :: T := by show List.drop gP.length _ = _; exact List.drop_left
  have t7 : (signB K0 T).take 7 = gP := by show List.take gP.length _ = _; exact List.take_left
  have t64 : (hexB (macB K0 T) ++ 10 :: T).take 64 = hexB (macB K0 T) := by rw [← hl]; exact List.take_left
  have d65 : (hexB (macB K0 T) ++ 10 :: T).drop 65 = T := by
    rw [List.drop_append, hl, List.drop_of_length_le (by omega)]; rfl
  have g64 : (hexB (macB K0 T) ++ 10 :: T)[64]? = some 10 := by rw [List.getElem?_append_right (by omega), hl]; rfl
  have hpb : pB (hexB (macB K0 T)) 32 = macB K0 T := by rw [pB_hex _ 32 (by omega), List.take_of_length_le (by omega)]
  unfold openV
  rw [d7, t7, t64, d65, g64, hpb, if_pos ⟨rfl, by simp; omega, rfl, hexOk_hexB hm⟩]
def shp (s : List UInt8) : Prop := s.take 7 = gP ∧ 64 < (s.drop 7).length ∧ (s.drop 7)[64]? = some 10 ∧ hexOk ((s.drop 7).take 64)
theorem open_cases (K s : List UInt8) : (openV K s).2 = 0 ∧ signB K (openV K s).1 = s ∨ shp s ∧ openV K s = ([], 7) ∨ ¬ shp s ∧ openV K s = ([], 6) := by
  by_cases q : shp s
  · have hv : openV K s = if pB ((s.drop 7).take 64) 32 = macB K ((s.drop 7).drop 65) then ((s.drop 7).drop 65, 0) else ([], 7) := if_pos q
    rw [hv]
    by_cases q2 : pB ((s.drop 7).take 64) 32 = macB K ((s.drop 7).drop 65)
    · rw [if_pos q2]
      refine .inl ⟨rfl, ?_⟩
      obtain ⟨h1, h2, h3, h4⟩ := q
      have h5 := hex_parse _ h4
      unfold signB
      rw [← q2, h5]
      have e1 : s.drop 7 = (s.drop 7).take 64 ++ 10 :: (s.drop 7).drop 65 := by
        have h6 : (s.drop 7)[64] = 10 := by
          rw [List.getElem?_eq_getElem h2] at h3
          exact Option.some.inj h3
        have h7 := List.drop_eq_getElem_cons h2
        rw [h6] at h7
        rw [← h7, List.take_append_drop]
      rw [← e1, ← h1, List.take_append_drop]
    · rw [if_neg q2]
      exact .inr (.inl ⟨q, rfl⟩)
  · exact .inr (.inr ⟨q, if_neg q⟩)
theorem shp_iff (s : List UInt8) : shp s ↔ 72 ≤ s.length ∧ s.take 7 = gP ∧ s[71]? = some 10 ∧ ∀ i, 7 ≤ i → i < 71 → 0 ≤ pv (s.getD i 0) := by
  unfold shp hexOk
  have g : ∀ i, (s.drop 7).getD i 0 = s.getD (7 + i) 0 := fun i => by simp [List.getD, List.getElem?_drop]
  have g2 : ∀ i, i < 64 → ((s.drop 7).take 64).getD i 0 = (s.drop 7).getD i 0 := fun i hi => by simp [List.getD, List.getElem?_take_of_lt hi]
  have g3 : (s.drop 7)[64]? = s[71]? := by rw [List.getElem?_drop]
  rw [g3]
  constructor
  · rintro ⟨h1, h2, h3, h4, h5⟩
    rw [List.length_drop] at h2
    refine ⟨by omega, h1, h3, fun i hi hj => ?_⟩
    have := h5 (i - 7) (by omega)
    rw [g2 _ (by omega), g, show 7 + (i - 7) = i by omega] at this
    exact this
  · rintro ⟨h1, h2, h3, h4⟩
    refine ⟨h2, by rw [List.length_drop]; omega, h3, by rw [List.length_take, List.length_drop]; omega, fun i hi => ?_⟩
    rw [g2 _ hi, g]
    exact h4 _ (by omega) (by omega)
structure SSt where
  i : Nat
  b : Bool
set_option maxHeartbeats 8000000 in
theorem manifestSigns_law (K0 K1 T0 T1 : List UInt8) (h : Heap) : ACalls Tryz.prog 4 [.string (bs K0), .string (bs K1), .agg #[.string (bs T0), .string (bs T1)]] h fun v _ => v = .bool true ∧ True := by
  refine acalls_of mix Tryz.func4 k4 n4 (by simp) fun hcl hb => ?_
  have m2 : mcells (.agg #[.string (bs T0), .string (bs T1)]) = some [.string (bs T0), .string (bs T1)] := rfl
  have f0 := cellsOf_new h [.string (bs T0), .string (bs T1)] .ex 1
  have n0 : (h.push (.cells [.string (bs T0), .string (bs T1)] .ex 1)).n = h.n + 1 := rfl
  have hsv : ∀ l, sv l = .string (bs l) := fun _ => rfl
  have i0 : aidx (.int .i64 0) 2 = some 0 := rfl
  have i1 : aidx (.int .i64 1) 2 = some 1 := rfl
  have hgP : (⟨⟨[83, 73, 71, 78, 69, 68, 32]⟩⟩ : ByteArray) = bs gP := rfl
  have hgl : gP.length = 7 := rfl
  simp only [c4, s_seq, s_ops]
  simp [m2]
  generalize h.push (.cells [.string (bs T0), .string (bs T1)] .ex 1) = H0 at *
  refine (awake19_ok H0).mono ?_
  rintro _ h9 ⟨rfl, e⟩
  rw [e]; clear e h9
  by_cases q0 : 300 < K0.length
  · have q0' : (300 : Int) < (K0.length : Int) := by omega
    simp [aun, bs_size, q0']
  have q0' : ¬ (300 : Int) < (K0.length : Int) := by omega
  by_cases q1 : 300 < K1.length
  · have q1' : (300 : Int) < (K1.length : Int) := by omega
    simp [aun, bs_size, q0', q1']
  have q1' : ¬ (300 : Int) < (K1.length : Int) := by omega
  by_cases q2 : 1000 < T0.length
  · have q2' : (1000 : Int) < (T0.length : Int) := by omega
    simp [aun, bs_size, q0', q1', q2', f0, i0, i1, apart]
  have q2' : ¬ (1000 : Int) < (T0.length : Int) := by omega
  by_cases q3 : 1000 < T1.length
  · have q3' : (1000 : Int) < (T1.length : Int) := by omega
    simp [aun, bs_size, q0', q1', q2', q3', f0, i0, i1, apart]
  have q3' : ¬ (1000 : Int) < (T1.length : Int) := by omega
  simp [aun, bs_size, q0', q1', q2', q3', f0, i0, i1, apart]
  clear q0' q1' q2' q3'
  refine (new_ok _).mono' ?_
  rintro _ h1 hc1 hv1 ⟨Hv, Kv, rfl, slH, slK, sub1⟩
  have hn1 := sub1.hi
  have m2' : mcells (.agg #[Hv, Kv]) = some [Hv, Kv] := rfl
  have hp2 : aput [Value.slice none 0 0, .slice none 0 0] 0 [Hv, Kv] = [Hv, Kv] := rfl
  have c2 : acut [Hv, Kv] 0 2 = some [Hv, Kv] := rfl
  have bH := Sl.below slH hc1
  have bK := Sl.below slK hc1
  have f0' : (h1.push (.cells [Hv, Kv] .ex 1)).cellsOf h.n = some ([.string (bs T0), .string (bs T1)], .ex, 1) := by
    rw [cellsOf_ne (by omega)]; exact cellsOf_keep sub1.sub f0
  have f1 := cellsOf_new h1 [Hv, Kv] .ex 1
  have fz := cellsOf_new h1 [.slice none 0 0, .slice none 0 0] .ex 1
  have e1 := (Heap.Ext.refl h1).push hc1 (.cells [Hv, Kv] .ex 1)
  have slH2 := Sl.keep slH e1.m
  have hcl2 : (h1.push (.cells [Hv, Kv] .ex 1)).Closed := closed_push hc1 (fun x hx => by
    simp at hx
    rcases hx with rfl | rfl
    · exact bH.mono (Nat.le_succ _)
    · exact bK.mono (Nat.le_succ _))
  have hn2 : (h1.push (.cells [Hv, Kv] .ex 1)).n = h1.n + 1 := rfl
  have slK2 := Sl.keep slK e1.m
  have c22 : acut [Value.string (bs T0), .string (bs T1)] 0 2 = some [.string (bs T0), .string (bs T1)] := rfl
  simp [m2', fz, hp2, set_push]
  generalize h1.push (.cells [Hv, Kv] .ex 1) = H2 at *
  simp [f0', f1, i0, i1, apart]
  refine (msign_ok K0 T0 (by omega) (by omega) H2).mono ?_
  rintro _ h9 ⟨rfl, e⟩
  rw [e]; clear e h9
  have hm0 := macB_len K0 T0
  have hx0 := mac_hex K0 T0
  have z1 : 72 + T0.length ≤ 9223372036854775807 := by omega
  simp [hsv, hgP, bs_lit, f0', f1, i0, i1, c2, apart]
  refine (refMac_ok K0 T0 (by omega) (by omega) Hv Kv H2 slH2 slK2).mono ?_
  rintro _ h9 ⟨rfl, e⟩
  rw [e]; clear e h9
  simp [f0', f1, i0, i1, c2, apart]
  refine (refHex_ok (macB K0 T0) hm0 H2).mono ?_
  rintro _ h9 ⟨rfl, e⟩
  rw [e]; clear e h9
  have hsg : gP ++ (hexB (macB K0 T0) ++ 10 :: T0) = signB K0 T0 := rfl
  have hsl : (signB K0 T0).length = 72 + T0.length := by unfold signB; simp [hgl, hx0]; omega
  simp [f0', f1, i0, i1, c2, apart, bs_size, bs_append, hgl, hx0, z1, hsg, bs_eq_dec]
  refine (mopen_ok K0 (signB K0 T0) (by omega) (by omega) H2).mono ?_
  rintro _ h9 ⟨rfl, e⟩
  rw [e]; clear e h9
  rw [open_sign, if_pos rfl]
  simp [hsv]
  refine (mopen_ok K1 (signB K0 T0) (by omega) (by omega) H2).mono ?_
  rintro _ h9 ⟨rfl, e⟩
  rw [e]; clear e h9
  rw [open_sign]
  have hm1 := macB_len K1 T0
  have hb0 : ∀ t u : Bool, aeq .bool (.bool t) (.bool u) = some (t == u) := fun t u => rfl
  have heq : aeqL (ckl 32) (ubs (macB K0 T0)) (ubs (macB K1 T0)) = some (decide (macB K0 T0 = macB K1 T0)) := by
    have := ubs_eqL (macB K0 T0) (macB K1 T0) (by rw [hm0, hm1])
    rw [hm0] at this; exact this
  by_cases hs : macB K0 T0 = macB K1 T0
  · rw [if_pos hs]
    have heq' : aeqL (ckl 32) (ubs (macB K0 T0)) (ubs (macB K1 T0)) = some true := by rw [heq, decide_eq_true hs]
    clear heq
    simp [hsv, f0', f1, i0, i1, c2, apart]
    refine (refMac_ok K0 T0 (by omega) (by omega) Hv Kv H2 slH2 slK2).mono ?_
    rintro _ h9 ⟨rfl, e⟩
    rw [e]; clear e h9
    simp [f0', f1, i0, i1, c2, apart]
    refine (refMac_ok K1 T0 (by omega) (by omega) Hv Kv H2 slH2 slK2).mono ?_
    rintro _ h9 ⟨rfl, e⟩
    rw [e]; clear e h9
    simp [aun, f0', f1, i0, i1, c2, apart, m_ubs, heq', bs_eq_dec]
    refine (mopen_ok K0 T1 (by omega) (by omega) H2).mono ?_
    rintro _ h9 ⟨rfl, e⟩
    rw [e]; clear e h9
    rcases open_cases K0 T1 with ⟨o1, o2⟩ | o3
    · have ol : (openV K0 T1).1.length ≤ 1000 := by
        have := congrArg List.length o2
        have hh := mac_hex K0 (openV K0 T1).1
        unfold signB at this
        simp [hgl, hh] at this
        omega
      generalize openV K0 T1 = w at *
      obtain ⟨wl, we⟩ := w
      dsimp only at o1 o2 ol ⊢
      subst o1
      simp [hsv, f0', i0, i1, apart]
      refine (msign_ok K0 wl (by omega) (by omega) H2).mono ?_
      rintro _ h9 ⟨rfl, e⟩
      rw [e]; clear e h9
      rw [o2]
      simp [hsv, f0', i0, i1, apart, bs_eq_dec]
    · obtain ⟨e, hw, hE⟩ : ∃ e : Int, openV K0 T1 = ([], e) ∧ (shp T1 ∧ e = 7 ∨ ¬ shp T1 ∧ e = 6) := by
        rcases o3 with ⟨k1, k2⟩ | ⟨k1, k2⟩
        · exact ⟨7, k2, .inl ⟨k1, rfl⟩⟩
        · exact ⟨6, k2, .inr ⟨k1, rfl⟩⟩
      have he0 : ¬ e = 0 := by omega
      rw [hw]
      simp [hsv, he0, f0', i0, i1, apart, bs_size]
      by_cases r1 : 72 ≤ T1.length
      case neg =>
        have r1' : ¬ (72 : Int) ≤ (T1.length : Int) := by omega
        simp [r1, r1']
        refine awp_loop_of (α := SSt) (fun z => 7 ≤ z.i ∧ z.i ≤ 71 ∧ (z.b = true → 72 ≤ T1.length ∧ T1.take 7 = gP ∧ T1[71]? = some 10 ∧ ∀ j, 7 ≤ j → j < z.i → 0 ≤ pv (T1.getD j 0)) ∧ (z.b = false → ¬ shp T1))
          (fun z => [(14, .string (bs [])), (15, .int .i64 e), (16, .string (bs T1)), (17, .bool z.b), (18, .int .i64 z.i)]) (fun _ => H2) (fun z => 71 - z.i) ⟨7, false⟩
          ⟨by show 7 ≤ 7; omega, by show 7 ≤ 71; omega, (fun k => by cases k), fun _ k => r1 ((shp_iff T1).1 k).1⟩ ⟨by omega, Nat.le_refl _, fun _ _ e => e, hcl2⟩ (by simp; exact ⟨.string, .int, .string, .bool, .int⟩) ?_
        rintro ⟨i, b⟩ ⟨hi7, hi71, ht, hf⟩
        dsimp only at hi7 hi71 ht hf ⊢
        cases b with
        | false =>
          have hns := hf rfl
          have he6 : e = 6 := by
            rcases hE with ⟨k1, _⟩ | ⟨_, k2⟩
            · exact absurd k1 hns
            · exact k2
          subst he6
          simp [c4_0, bs_lit, hb0]
        | true =>
          obtain ⟨k1, k2, k3, k4⟩ := ht rfl
          by_cases hlt : i < 71
          · have hi' : (i : Int) < 71 := by omega
            have hil : i < T1.length := by omega
            have w4 : IntKind.i64.wrap ((i : Int) + 1) = ((i + 1 : Nat) : Int) := w1 i (by omega)
            have g1 : T1[i]? = some T1[i] := List.getElem?_eq_getElem hil
            have iX : aidx (.int .i64 (i : Int)) T1.length = some i := aidx_of hil
            have gD : T1.getD i 0 = T1[i] := by simp [List.getD, g1]
            obtain ⟨c, hc⟩ : ∃ c, T1[i] = c := ⟨_, rfl⟩
            rw [hc] at g1 gD
            have hres : ∀ bb : Bool, (bb = true ↔ (48 ≤ c.toNat ∧ c.toNat ≤ 57) ∨ (97 ≤ c.toNat ∧ c.toNat ≤ 102)) → 7 ≤ i + 1 ∧ i + 1 ≤ 71 ∧ (bb = true → 72 ≤ T1.length ∧ T1.take 7 = gP ∧ T1[71]? = some 10 ∧ ∀ j, 7 ≤ j → j < i + 1 → 0 ≤ pv (T1.getD j 0)) ∧ (bb = false → ¬ shp T1) := fun bb hbb => by
              rw [← hexdig_iff] at hbb
              refine ⟨by omega, by omega, fun e1 => ⟨k1, k2, k3, fun j j1 j2 => ?_⟩, fun e1 k => ?_⟩
              · by_cases q : j = i
                · rw [q, gD]; exact hbb.1 e1
                · exact k4 j j1 (by omega)
              · have := ((shp_iff T1).1 k).2.2.2 i hi7 hlt
                rw [gD] at this
                rw [e1] at hbb
                exact absurd (hbb.2 this) (by simp)
            have hS : Heap.Sub h.n H2 H2 := ⟨by omega, Nat.le_refl _, fun _ _ e => e, hcl2⟩
            have hm : 71 - (i + 1) < 71 - i := by omega
            by_cases d1 : 48 ≤ c.toNat
            · have d1' : (48 : Int) ≤ (c.toNat : Int) := by omega
              by_cases d2 : c.toNat ≤ 57
              · have d2' : (c.toNat : Int) ≤ 57 := by omega
                simp [c4_0, hi', bs_size, bs_data, iX, g1, hc, d1, d1', d2, d2', w4, -Int.natCast_add]
                exact ⟨⟨i + 1, true⟩, hm, hres true (by simp [d1, d2]), hS, .string, .int, .string, ⟨rfl, .bool⟩, rfl, .int⟩
              · have d2' : ¬ (c.toNat : Int) ≤ 57 := by omega
                by_cases d3 : 97 ≤ c.toNat
                · have d3' : (97 : Int) ≤ (c.toNat : Int) := by omega
                  by_cases d4 : c.toNat ≤ 102
                  · have d4' : (c.toNat : Int) ≤ 102 := by omega
                    simp [c4_0, hi', bs_size, bs_data, iX, g1, hc, d1, d1', d2, d2', d3, d3', d4, d4', w4, -Int.natCast_add]
                    exact ⟨⟨i + 1, true⟩, hm, hres true (by simp [d3, d4]), hS, .string, .int, .string, ⟨rfl, .bool⟩, rfl, .int⟩
                  · have d4' : ¬ (c.toNat : Int) ≤ 102 := by omega
                    simp [c4_0, hi', bs_size, bs_data, iX, g1, hc, d1, d1', d2, d2', d3, d3', d4, d4', w4, -Int.natCast_add]
                    exact ⟨⟨i + 1, false⟩, hm, hres false (by simp [d2, d4]), hS, .string, .int, .string, ⟨rfl, .bool⟩, rfl, .int⟩
                · have d3' : ¬ (97 : Int) ≤ (c.toNat : Int) := by omega
                  simp [c4_0, hi', bs_size, bs_data, iX, g1, hc, d1, d1', d2, d2', d3, d3', w4, -Int.natCast_add]
                  exact ⟨⟨i + 1, false⟩, hm, hres false (by simp [d2, d3]), hS, .string, .int, .string, ⟨rfl, .bool⟩, rfl, .int⟩
            · have d1' : ¬ (48 : Int) ≤ (c.toNat : Int) := by omega
              have d3 : ¬ 97 ≤ c.toNat := by omega
              have d3' : ¬ (97 : Int) ≤ (c.toNat : Int) := by omega
              simp [c4_0, hi', bs_size, bs_data, iX, g1, hc, d1, d1', d3, d3', w4, -Int.natCast_add]
              exact ⟨⟨i + 1, false⟩, hm, hres false (by simp [d1, d3]), hS, .string, .int, .string, ⟨rfl, .bool⟩, rfl, .int⟩
          · have hi' : ¬ (i : Int) < 71 := by omega
            have hsh : shp T1 := (shp_iff T1).2 ⟨k1, k2, k3, fun j j1 j2 => k4 j j1 (by omega)⟩
            have he7 : e = 7 := by
              rcases hE with ⟨_, k⟩ | ⟨k, _⟩
              · exact k
              · exact absurd hsh k
            subst he7
            simp [c4_0, hi', bs_lit, hb0]
      have r1' : (72 : Int) ≤ (T1.length : Int) := by omega
      have b1 : abounds T1.length T1.length none (some (.int .i64 7)) none = some (0, 7, T1.length) := abounds_hi (k := 7) (by omega)
      have x1 : (bs T1).extract 0 7 = bs (T1.take 7) := by rw [bs_extract, List.drop_zero]
      by_cases r2 : T1.take 7 = gP
      case neg =>
        simp [r1, r1', bs_size, b1, x1, hgP, bs_eq_dec, r2]
        refine awp_loop_of (α := SSt) (fun z => 7 ≤ z.i ∧ z.i ≤ 71 ∧ (z.b = true → 72 ≤ T1.length ∧ T1.take 7 = gP ∧ T1[71]? = some 10 ∧ ∀ j, 7 ≤ j → j < z.i → 0 ≤ pv (T1.getD j 0)) ∧ (z.b = false → ¬ shp T1))
          (fun z => [(14, .string (bs [])), (15, .int .i64 e), (16, .string (bs T1)), (17, .bool z.b), (18, .int .i64 z.i)]) (fun _ => H2) (fun z => 71 - z.i) ⟨7, false⟩
          ⟨by show 7 ≤ 7; omega, by show 7 ≤ 71; omega, (fun k => by cases k), fun _ k => r2 ((shp_iff T1).1 k).2.1⟩ ⟨by omega, Nat.le_refl _, fun _ _ e => e, hcl2⟩ (by simp; exact ⟨.string, .int, .string, .bool, .int⟩) ?_
        rintro ⟨i, b⟩ ⟨hi7, hi71, ht, hf⟩
        dsimp only at hi7 hi71 ht hf ⊢
        cases b with
        | false =>
          have hns := hf rfl
          have he6 : e = 6 := by
            rcases hE with ⟨k1, _⟩ | ⟨_, k2⟩
            · exact absurd k1 hns
            · exact k2
          subst he6
          simp [c4_0, bs_lit, hb0]
        | true =>
          obtain ⟨k1, k2, k3, k4⟩ := ht rfl
          by_cases hlt : i < 71
          · have hi' : (i : Int) < 71 := by omega
            have hil : i < T1.length := by omega
            have w4 : IntKind.i64.wrap ((i : Int) + 1) = ((i + 1 : Nat) : Int) := w1 i (by omega)
            have g1 : T1[i]? = some T1[i] := List.getElem?_eq_getElem hil
            have iX : aidx (.int .i64 (i : Int)) T1.length = some i := aidx_of hil
            have gD : T1.getD i 0 = T1[i] := by simp [List.getD, g1]
            obtain ⟨c, hc⟩ : ∃ c, T1[i] = c := ⟨_, rfl⟩
            rw [hc] at g1 gD
            have hres : ∀ bb : Bool, (bb = true ↔ (48 ≤ c.toNat ∧ c.toNat ≤ 57) ∨ (97 ≤ c.toNat ∧ c.toNat ≤ 102)) → 7 ≤ i + 1 ∧ i + 1 ≤ 71 ∧ (bb = true → 72 ≤ T1.length ∧ T1.take 7 = gP ∧ T1[71]? = some 10 ∧ ∀ j, 7 ≤ j → j < i + 1 → 0 ≤ pv (T1.getD j 0)) ∧ (bb = false → ¬ shp T1) := fun bb hbb => by
              rw [← hexdig_iff] at hbb
              refine ⟨by omega, by omega, fun e1 => ⟨k1, k2, k3, fun j j1 j2 => ?_⟩, fun e1 k => ?_⟩
              · by_cases q : j = i
                · rw [q, gD]; exact hbb.1 e1
                · exact k4 j j1 (by omega)
              · have := ((shp_iff T1).1 k).2.2.2 i hi7 hlt
                rw [gD] at this
                rw [e1] at hbb
                exact absurd (hbb.2 this) (by simp)
            have hS : Heap.Sub h.n H2 H2 := ⟨by omega, Nat.le_refl _, fun _ _ e => e, hcl2⟩
            have hm : 71 - (i + 1) < 71 - i := by omega
            by_cases d1 : 48 ≤ c.toNat
            · have d1' : (48 : Int) ≤ (c.toNat : Int) := by omega
              by_cases d2 : c.toNat ≤ 57
              · have d2' : (c.toNat : Int) ≤ 57 := by omega
                simp [c4_0, hi', bs_size, bs_data, iX, g1, hc, d1, d1', d2, d2', w4, -Int.natCast_add]
                exact ⟨⟨i + 1, true⟩, hm, hres true (by simp [d1, d2]), hS, .string, .int, .string, ⟨rfl, .bool⟩, rfl, .int⟩
              · have d2' : ¬ (c.toNat : Int) ≤ 57 := by omega
                by_cases d3 : 97 ≤ c.toNat
                · have d3' : (97 : Int) ≤ (c.toNat : Int) := by omega
                  by_cases d4 : c.toNat ≤ 102
                  · have d4' : (c.toNat : Int) ≤ 102 := by omega
                    simp [c4_0, hi', bs_size, bs_data, iX, g1, hc, d1, d1', d2, d2', d3, d3', d4, d4', w4, -Int.natCast_add]
                    exact ⟨⟨i + 1, true⟩, hm, hres true (by simp [d3, d4]), hS, .string, .int, .string, ⟨rfl, .bool⟩, rfl, .int⟩
                  · have d4' : ¬ (c.toNat : Int) ≤ 102 := by omega
                    simp [c4_0, hi', bs_size, bs_data, iX, g1, hc, d1, d1', d2, d2', d3, d3', d4, d4', w4, -Int.natCast_add]
                    exact ⟨⟨i + 1, false⟩, hm, hres false (by simp [d2, d4]), hS, .string, .int, .string, ⟨rfl, .bool⟩, rfl, .int⟩
                · have d3' : ¬ (97 : Int) ≤ (c.toNat : Int) := by omega
                  simp [c4_0, hi', bs_size, bs_data, iX, g1, hc, d1, d1', d2, d2', d3, d3', w4, -Int.natCast_add]
                  exact ⟨⟨i + 1, false⟩, hm, hres false (by simp [d2, d3]), hS, .string, .int, .string, ⟨rfl, .bool⟩, rfl, .int⟩
            · have d1' : ¬ (48 : Int) ≤ (c.toNat : Int) := by omega
              have d3 : ¬ 97 ≤ c.toNat := by omega
              have d3' : ¬ (97 : Int) ≤ (c.toNat : Int) := by omega
              simp [c4_0, hi', bs_size, bs_data, iX, g1, hc, d1, d1', d3, d3', w4, -Int.natCast_add]
              exact ⟨⟨i + 1, false⟩, hm, hres false (by simp [d1, d3]), hS, .string, .int, .string, ⟨rfl, .bool⟩, rfl, .int⟩
          · have hi' : ¬ (i : Int) < 71 := by omega
            have hsh : shp T1 := (shp_iff T1).2 ⟨k1, k2, k3, fun j j1 j2 => k4 j j1 (by omega)⟩
            have he7 : e = 7 := by
              rcases hE with ⟨_, k⟩ | ⟨k, _⟩
              · exact k
              · exact absurd hsh k
            subst he7
            simp [c4_0, hi', bs_lit, hb0]
      have g71 : T1[71]? = some T1[71] := List.getElem?_eq_getElem (by omega)
      have iX71 : aidx (.int .i64 71) T1.length = some 71 := aidx_of (i := 71) (by omega)
      obtain ⟨d, hd⟩ : ∃ d, T1[71] = d := ⟨_, rfl⟩
      rw [hd] at g71
      by_cases r3 : d = 10
      case neg =>
        have r3' : ¬ (d.toNat : Int) = 10 := fun q => r3 (UInt8.toNat_inj.1 (by show d.toNat = 10; omega))
        have r3'' : ¬ d.toNat = 10 := fun q => r3 (UInt8.toNat_inj.1 q)
        simp [r1, r1', bs_size, bs_data, b1, x1, hgP, bs_eq_dec, r2, iX71, g71, hd, r3, r3', r3'']
        refine awp_loop_of (α := SSt) (fun z => 7 ≤ z.i ∧ z.i ≤ 71 ∧ (z.b = true → 72 ≤ T1.length ∧ T1.take 7 = gP ∧ T1[71]? = some 10 ∧ ∀ j, 7 ≤ j → j < z.i → 0 ≤ pv (T1.getD j 0)) ∧ (z.b = false → ¬ shp T1))
          (fun z => [(14, .string (bs [])), (15, .int .i64 e), (16, .string (bs T1)), (17, .bool z.b), (18, .int .i64 z.i)]) (fun _ => H2) (fun z => 71 - z.i) ⟨7, false⟩
          ⟨by show 7 ≤ 7; omega, by show 7 ≤ 71; omega, (fun k => by cases k), fun _ k => r3 (by simpa [g71] using ((shp_iff T1).1 k).2.2.1)⟩ ⟨by omega, Nat.le_refl _, fun _ _ e => e, hcl2⟩ (by simp; exact ⟨.string, .int, .string, .bool, .int⟩) ?_
        rintro ⟨i, b⟩ ⟨hi7, hi71, ht, hf⟩
        dsimp only at hi7 hi71 ht hf ⊢
        cases b with
        | false =>
          have hns := hf rfl
          have he6 : e = 6 := by
            rcases hE with ⟨k1, _⟩ | ⟨_, k2⟩
            · exact absurd k1 hns
            · exact k2
          subst he6
          simp [c4_0, bs_lit, hb0]
        | true =>
          obtain ⟨k1, k2, k3, k4⟩ := ht rfl
          by_cases hlt : i < 71
          · have hi' : (i : Int) < 71 := by omega
            have hil : i < T1.length := by omega
            have w4 : IntKind.i64.wrap ((i : Int) + 1) = ((i + 1 : Nat) : Int) := w1 i (by omega)
            have g1 : T1[i]? = some T1[i] := List.getElem?_eq_getElem hil
            have iX : aidx (.int .i64 (i : Int)) T1.length = some i := aidx_of hil
            have gD : T1.getD i 0 = T1[i] := by simp [List.getD, g1]
            obtain ⟨c, hc⟩ : ∃ c, T1[i] = c := ⟨_, rfl⟩
            rw [hc] at g1 gD
            have hres : ∀ bb : Bool, (bb = true ↔ (48 ≤ c.toNat ∧ c.toNat ≤ 57) ∨ (97 ≤ c.toNat ∧ c.toNat ≤ 102)) → 7 ≤ i + 1 ∧ i + 1 ≤ 71 ∧ (bb = true → 72 ≤ T1.length ∧ T1.take 7 = gP ∧ T1[71]? = some 10 ∧ ∀ j, 7 ≤ j → j < i + 1 → 0 ≤ pv (T1.getD j 0)) ∧ (bb = false → ¬ shp T1) := fun bb hbb => by
              rw [← hexdig_iff] at hbb
              refine ⟨by omega, by omega, fun e1 => ⟨k1, k2, k3, fun j j1 j2 => ?_⟩, fun e1 k => ?_⟩
              · by_cases q : j = i
                · rw [q, gD]; exact hbb.1 e1
                · exact k4 j j1 (by omega)
              · have := ((shp_iff T1).1 k).2.2.2 i hi7 hlt
                rw [gD] at this
                rw [e1] at hbb
                exact absurd (hbb.2 this) (by simp)
            have hS : Heap.Sub h.n H2 H2 := ⟨by omega, Nat.le_refl _, fun _ _ e => e, hcl2⟩
            have hm : 71 - (i + 1) < 71 - i := by omega
            by_cases d1 : 48 ≤ c.toNat
            · have d1' : (48 : Int) ≤ (c.toNat : Int) := by omega
              by_cases d2 : c.toNat ≤ 57
              · have d2' : (c.toNat : Int) ≤ 57 := by omega
                simp [c4_0, hi', bs_size, bs_data, iX, g1, hc, d1, d1', d2, d2', w4, -Int.natCast_add]
                exact ⟨⟨i + 1, true⟩, hm, hres true (by simp [d1, d2]), hS, .string, .int, .string, ⟨rfl, .bool⟩, rfl, .int⟩
              · have d2' : ¬ (c.toNat : Int) ≤ 57 := by omega
                by_cases d3 : 97 ≤ c.toNat
                · have d3' : (97 : Int) ≤ (c.toNat : Int) := by omega
                  by_cases d4 : c.toNat ≤ 102
                  · have d4' : (c.toNat : Int) ≤ 102 := by omega
                    simp [c4_0, hi', bs_size, bs_data, iX, g1, hc, d1, d1', d2, d2', d3, d3', d4, d4', w4, -Int.natCast_add]
                    exact ⟨⟨i + 1, true⟩, hm, hres true (by simp [d3, d4]), hS, .string, .int, .string, ⟨rfl, .bool⟩, rfl, .int⟩
                  · have d4' : ¬ (c.toNat : Int) ≤ 102 := by omega
                    simp [c4_0, hi', bs_size, bs_data, iX, g1, hc, d1, d1', d2, d2', d3, d3', d4, d4', w4, -Int.natCast_add]
                    exact ⟨⟨i + 1, false⟩, hm, hres false (by simp [d2, d4]), hS, .string, .int, .string, ⟨rfl, .bool⟩, rfl, .int⟩
                · have d3' : ¬ (97 : Int) ≤ (c.toNat : Int) := by omega
                  simp [c4_0, hi', bs_size, bs_data, iX, g1, hc, d1, d1', d2, d2', d3, d3', w4, -Int.natCast_add]
                  exact ⟨⟨i + 1, false⟩, hm, hres false (by simp [d2, d3]), hS, .string, .int, .string, ⟨rfl, .bool⟩, rfl, .int⟩
            · have d1' : ¬ (48 : Int) ≤ (c.toNat : Int) := by omega
              have d3 : ¬ 97 ≤ c.toNat := by omega
              have d3' : ¬ (97 : Int) ≤ (c.toNat : Int) := by omega
              simp [c4_0, hi', bs_size, bs_data, iX, g1, hc, d1, d1', d3, d3', w4, -Int.natCast_add]
              exact ⟨⟨i + 1, false⟩, hm, hres false (by simp [d1, d3]), hS, .string, .int, .string, ⟨rfl, .bool⟩, rfl, .int⟩
          · have hi' : ¬ (i : Int) < 71 := by omega
            have hsh : shp T1 := (shp_iff T1).2 ⟨k1, k2, k3, fun j j1 j2 => k4 j j1 (by omega)⟩
            have he7 : e = 7 := by
              rcases hE with ⟨_, k⟩ | ⟨k, _⟩
              · exact k
              · exact absurd hsh k
            subst he7
            simp [c4_0, hi', bs_lit, hb0]
      subst r3
      simp [r1, r1', bs_size, bs_data, b1, x1, hgP, bs_eq_dec, r2, iX71, g71, hd]
      refine awp_loop_of (α := SSt) (fun z => 7 ≤ z.i ∧ z.i ≤ 71 ∧ (z.b = true → 72 ≤ T1.length ∧ T1.take 7 = gP ∧ T1[71]? = some 10 ∧ ∀ j, 7 ≤ j → j < z.i → 0 ≤ pv (T1.getD j 0)) ∧ (z.b = false → ¬ shp T1))
        (fun z => [(14, .string (bs [])), (15, .int .i64 e), (16, .string (bs T1)), (17, .bool z.b), (18, .int .i64 z.i)]) (fun _ => H2) (fun z => 71 - z.i) ⟨7, true⟩
        ⟨by show 7 ≤ 7; omega, by show 7 ≤ 71; omega, fun _ => ⟨r1, r2, g71, fun j j1 j2 => absurd j2 (by show ¬ j < 7; omega)⟩, (fun k => by cases k)⟩ ⟨by omega, Nat.le_refl _, fun _ _ e => e, hcl2⟩ (by simp; exact ⟨.string, .int, .string, .bool, .int⟩) ?_
      rintro ⟨i, b⟩ ⟨hi7, hi71, ht, hf⟩
      dsimp only at hi7 hi71 ht hf ⊢
      cases b with
      | false =>
        have hns := hf rfl
        have he6 : e = 6 := by
          rcases hE with ⟨k1, _⟩ | ⟨_, k2⟩
          · exact absurd k1 hns
          · exact k2
        subst he6
        simp [c4_0, bs_lit, hb0]
      | true =>
        obtain ⟨k1, k2, k3, k4⟩ := ht rfl
        by_cases hlt : i < 71
        · have hi' : (i : Int) < 71 := by omega
          have hil : i < T1.length := by omega
          have w4 : IntKind.i64.wrap ((i : Int) + 1) = ((i + 1 : Nat) : Int) := w1 i (by omega)
          have g1 : T1[i]? = some T1[i] := List.getElem?_eq_getElem hil
          have iX : aidx (.int .i64 (i : Int)) T1.length = some i := aidx_of hil
          have gD : T1.getD i 0 = T1[i] := by simp [List.getD, g1]
          obtain ⟨c, hc⟩ : ∃ c, T1[i] = c := ⟨_, rfl⟩
          rw [hc] at g1 gD
          have hres : ∀ bb : Bool, (bb = true ↔ (48 ≤ c.toNat ∧ c.toNat ≤ 57) ∨ (97 ≤ c.toNat ∧ c.toNat ≤ 102)) → 7 ≤ i + 1 ∧ i + 1 ≤ 71 ∧ (bb = true → 72 ≤ T1.length ∧ T1.take 7 = gP ∧ T1[71]? = some 10 ∧ ∀ j, 7 ≤ j → j < i + 1 → 0 ≤ pv (T1.getD j 0)) ∧ (bb = false → ¬ shp T1) := fun bb hbb => by
            rw [← hexdig_iff] at hbb
            refine ⟨by omega, by omega, fun e1 => ⟨k1, k2, k3, fun j j1 j2 => ?_⟩, fun e1 k => ?_⟩
            · by_cases q : j = i
              · rw [q, gD]; exact hbb.1 e1
              · exact k4 j j1 (by omega)
            · have := ((shp_iff T1).1 k).2.2.2 i hi7 hlt
              rw [gD] at this
              rw [e1] at hbb
              exact absurd (hbb.2 this) (by simp)
          have hS : Heap.Sub h.n H2 H2 := ⟨by omega, Nat.le_refl _, fun _ _ e => e, hcl2⟩
          have hm : 71 - (i + 1) < 71 - i := by omega
          by_cases d1 : 48 ≤ c.toNat
          · have d1' : (48 : Int) ≤ (c.toNat : Int) := by omega
            by_cases d2 : c.toNat ≤ 57
            · have d2' : (c.toNat : Int) ≤ 57 := by omega
              simp [c4_0, hi', bs_size, bs_data, iX, g1, hc, d1, d1', d2, d2', w4, -Int.natCast_add]
              exact ⟨⟨i + 1, true⟩, hm, hres true (by simp [d1, d2]), hS, .string, .int, .string, ⟨rfl, .bool⟩, rfl, .int⟩
            · have d2' : ¬ (c.toNat : Int) ≤ 57 := by omega
              by_cases d3 : 97 ≤ c.toNat
              · have d3' : (97 : Int) ≤ (c.toNat : Int) := by omega
                by_cases d4 : c.toNat ≤ 102
                · have d4' : (c.toNat : Int) ≤ 102 := by omega
                  simp [c4_0, hi', bs_size, bs_data, iX, g1, hc, d1, d1', d2, d2', d3, d3', d4, d4', w4, -Int.natCast_add]
                  exact ⟨⟨i + 1, true⟩, hm, hres true (by simp [d3, d4]), hS, .string, .int, .string, ⟨rfl, .bool⟩, rfl, .int⟩
                · have d4' : ¬ (c.toNat : Int) ≤ 102 := by omega
                  simp [c4_0, hi', bs_size, bs_data, iX, g1, hc, d1, d1', d2, d2', d3, d3', d4, d4', w4, -Int.natCast_add]
                  exact ⟨⟨i + 1, false⟩, hm, hres false (by simp [d2, d4]), hS, .string, .int, .string, ⟨rfl, .bool⟩, rfl, .int⟩
              · have d3' : ¬ (97 : Int) ≤ (c.toNat : Int) := by omega
                simp [c4_0, hi', bs_size, bs_data, iX, g1, hc, d1, d1', d2, d2', d3, d3', w4, -Int.natCast_add]
                exact ⟨⟨i + 1, false⟩, hm, hres false (by simp [d2, d3]), hS, .string, .int, .string, ⟨rfl, .bool⟩, rfl, .int⟩
          · have d1' : ¬ (48 : Int) ≤ (c.toNat : Int) := by omega
            have d3 : ¬ 97 ≤ c.toNat := by omega
            have d3' : ¬ (97 : Int) ≤ (c.toNat : Int) := by omega
            simp [c4_0, hi', bs_size, bs_data, iX, g1, hc, d1, d1', d3, d3', w4, -Int.natCast_add]
            exact ⟨⟨i + 1, false⟩, hm, hres false (by simp [d1, d3]), hS, .string, .int, .string, ⟨rfl, .bool⟩, rfl, .int⟩
        · have hi' : ¬ (i : Int) < 71 := by omega
          have hsh : shp T1 := (shp_iff T1).2 ⟨k1, k2, k3, fun j j1 j2 => k4 j j1 (by omega)⟩
          have he7 : e = 7 := by
            rcases hE with ⟨_, k⟩ | ⟨k, _⟩
            · exact k
            · exact absurd hsh k
          subst he7
          simp [c4_0, hi', bs_lit, hb0]
  · rw [if_neg hs]
    have heq' : aeqL (ckl 32) (ubs (macB K0 T0)) (ubs (macB K1 T0)) = some false := by rw [heq, decide_eq_false hs]
    clear heq
    simp [hsv, f0', f1, i0, i1, c2, apart]
    refine (refMac_ok K0 T0 (by omega) (by omega) Hv Kv H2 slH2 slK2).mono ?_
    rintro _ h9 ⟨rfl, e⟩
    rw [e]; clear e h9
    simp [f0', f1, i0, i1, c2, apart]
    refine (refMac_ok K1 T0 (by omega) (by omega) Hv Kv H2 slH2 slK2).mono ?_
    rintro _ h9 ⟨rfl, e⟩
    rw [e]; clear e h9
    simp [aun, f0', f1, i0, i1, c2, apart, m_ubs, heq', bs_eq_dec, bs_lit]
    refine (mopen_ok K0 T1 (by omega) (by omega) H2).mono ?_
    rintro _ h9 ⟨rfl, e⟩
    rw [e]; clear e h9
    rcases open_cases K0 T1 with ⟨o1, o2⟩ | o3
    · have ol : (openV K0 T1).1.length ≤ 1000 := by
        have := congrArg List.length o2
        have hh := mac_hex K0 (openV K0 T1).1
        unfold signB at this
        simp [hgl, hh] at this
        omega
      generalize openV K0 T1 = w at *
      obtain ⟨wl, we⟩ := w
      dsimp only at o1 o2 ol ⊢
      subst o1
      simp [hsv, f0', i0, i1, apart]
      refine (msign_ok K0 wl (by omega) (by omega) H2).mono ?_
      rintro _ h9 ⟨rfl, e⟩
      rw [e]; clear e h9
      rw [o2]
      simp [hsv, f0', i0, i1, apart, bs_eq_dec]
    · obtain ⟨e, hw, hE⟩ : ∃ e : Int, openV K0 T1 = ([], e) ∧ (shp T1 ∧ e = 7 ∨ ¬ shp T1 ∧ e = 6) := by
        rcases o3 with ⟨k1, k2⟩ | ⟨k1, k2⟩
        · exact ⟨7, k2, .inl ⟨k1, rfl⟩⟩
        · exact ⟨6, k2, .inr ⟨k1, rfl⟩⟩
      have he0 : ¬ e = 0 := by omega
      rw [hw]
      simp [hsv, he0, f0', i0, i1, apart, bs_size]
      by_cases r1 : 72 ≤ T1.length
      case neg =>
        have r1' : ¬ (72 : Int) ≤ (T1.length : Int) := by omega
        simp [r1, r1']
        refine awp_loop_of (α := SSt) (fun z => 7 ≤ z.i ∧ z.i ≤ 71 ∧ (z.b = true → 72 ≤ T1.length ∧ T1.take 7 = gP ∧ T1[71]? = some 10 ∧ ∀ j, 7 ≤ j → j < z.i → 0 ≤ pv (T1.getD j 0)) ∧ (z.b = false → ¬ shp T1))
          (fun z => [(14, .string (bs [])), (15, .int .i64 e), (16, .string (bs T1)), (17, .bool z.b), (18, .int .i64 z.i)]) (fun _ => H2) (fun z => 71 - z.i) ⟨7, false⟩
          ⟨by show 7 ≤ 7; omega, by show 7 ≤ 71; omega, (fun k => by cases k), fun _ k => r1 ((shp_iff T1).1 k).1⟩ ⟨by omega, Nat.le_refl _, fun _ _ e => e, hcl2⟩ (by simp; exact ⟨.string, .int, .string, .bool, .int⟩) ?_
        rintro ⟨i, b⟩ ⟨hi7, hi71, ht, hf⟩
        dsimp only at hi7 hi71 ht hf ⊢
        cases b with
        | false =>
          have hns := hf rfl
          have he6 : e = 6 := by
            rcases hE with ⟨k1, _⟩ | ⟨_, k2⟩
            · exact absurd k1 hns
            · exact k2
          subst he6
          simp [c4_0, bs_lit, hb0]
        | true =>
          obtain ⟨k1, k2, k3, k4⟩ := ht rfl
          by_cases hlt : i < 71
          · have hi' : (i : Int) < 71 := by omega
            have hil : i < T1.length := by omega
            have w4 : IntKind.i64.wrap ((i : Int) + 1) = ((i + 1 : Nat) : Int) := w1 i (by omega)
            have g1 : T1[i]? = some T1[i] := List.getElem?_eq_getElem hil
            have iX : aidx (.int .i64 (i : Int)) T1.length = some i := aidx_of hil
            have gD : T1.getD i 0 = T1[i] := by simp [List.getD, g1]
            obtain ⟨c, hc⟩ : ∃ c, T1[i] = c := ⟨_, rfl⟩
            rw [hc] at g1 gD
            have hres : ∀ bb : Bool, (bb = true ↔ (48 ≤ c.toNat ∧ c.toNat ≤ 57) ∨ (97 ≤ c.toNat ∧ c.toNat ≤ 102)) → 7 ≤ i + 1 ∧ i + 1 ≤ 71 ∧ (bb = true → 72 ≤ T1.length ∧ T1.take 7 = gP ∧ T1[71]? = some 10 ∧ ∀ j, 7 ≤ j → j < i + 1 → 0 ≤ pv (T1.getD j 0)) ∧ (bb = false → ¬ shp T1) := fun bb hbb => by
              rw [← hexdig_iff] at hbb
              refine ⟨by omega, by omega, fun e1 => ⟨k1, k2, k3, fun j j1 j2 => ?_⟩, fun e1 k => ?_⟩
              · by_cases q : j = i
                · rw [q, gD]; exact hbb.1 e1
                · exact k4 j j1 (by omega)
              · have := ((shp_iff T1).1 k).2.2.2 i hi7 hlt
                rw [gD] at this
                rw [e1] at hbb
                exact absurd (hbb.2 this) (by simp)
            have hS : Heap.Sub h.n H2 H2 := ⟨by omega, Nat.le_refl _, fun _ _ e => e, hcl2⟩
            have hm : 71 - (i + 1) < 71 - i := by omega
            by_cases d1 : 48 ≤ c.toNat
            · have d1' : (48 : Int) ≤ (c.toNat : Int) := by omega
              by_cases d2 : c.toNat ≤ 57
              · have d2' : (c.toNat : Int) ≤ 57 := by omega
                simp [c4_0, hi', bs_size, bs_data, iX, g1, hc, d1, d1', d2, d2', w4, -Int.natCast_add]
                exact ⟨⟨i + 1, true⟩, hm, hres true (by simp [d1, d2]), hS, .string, .int, .string, ⟨rfl, .bool⟩, rfl, .int⟩
              · have d2' : ¬ (c.toNat : Int) ≤ 57 := by omega
                by_cases d3 : 97 ≤ c.toNat
                · have d3' : (97 : Int) ≤ (c.toNat : Int) := by omega
                  by_cases d4 : c.toNat ≤ 102
                  · have d4' : (c.toNat : Int) ≤ 102 := by omega
                    simp [c4_0, hi', bs_size, bs_data, iX, g1, hc, d1, d1', d2, d2', d3, d3', d4, d4', w4, -Int.natCast_add]
                    exact ⟨⟨i + 1, true⟩, hm, hres true (by simp [d3, d4]), hS, .string, .int, .string, ⟨rfl, .bool⟩, rfl, .int⟩
                  · have d4' : ¬ (c.toNat : Int) ≤ 102 := by omega
                    simp [c4_0, hi', bs_size, bs_data, iX, g1, hc, d1, d1', d2, d2', d3, d3', d4, d4', w4, -Int.natCast_add]
                    exact ⟨⟨i + 1, false⟩, hm, hres false (by simp [d2, d4]), hS, .string, .int, .string, ⟨rfl, .bool⟩, rfl, .int⟩
                · have d3' : ¬ (97 : Int) ≤ (c.toNat : Int) := by omega
                  simp [c4_0, hi', bs_size, bs_data, iX, g1, hc, d1, d1', d2, d2', d3, d3', w4, -Int.natCast_add]
                  exact ⟨⟨i + 1, false⟩, hm, hres false (by simp [d2, d3]), hS, .string, .int, .string, ⟨rfl, .bool⟩, rfl, .int⟩
            · have d1' : ¬ (48 : Int) ≤ (c.toNat : Int) := by omega
              have d3 : ¬ 97 ≤ c.toNat := by omega
              have d3' : ¬ (97 : Int) ≤ (c.toNat : Int) := by omega
              simp [c4_0, hi', bs_size, bs_data, iX, g1, hc, d1, d1', d3, d3', w4, -Int.natCast_add]
              exact ⟨⟨i + 1, false⟩, hm, hres false (by simp [d1, d3]), hS, .string, .int, .string, ⟨rfl, .bool⟩, rfl, .int⟩
          · have hi' : ¬ (i : Int) < 71 := by omega
            have hsh : shp T1 := (shp_iff T1).2 ⟨k1, k2, k3, fun j j1 j2 => k4 j j1 (by omega)⟩
            have he7 : e = 7 := by
              rcases hE with ⟨_, k⟩ | ⟨k, _⟩
              · exact k
              · exact absurd hsh k
            subst he7
            simp [c4_0, hi', bs_lit, hb0]
      have r1' : (72 : Int) ≤ (T1.length : Int) := by omega
      have b1 : abounds T1.length T1.length none (some (.int .i64 7)) none = some (0, 7, T1.length) := abounds_hi (k := 7) (by omega)
      have x1 : (bs T1).extract 0 7 = bs (T1.take 7) := by rw [bs_extract, List.drop_zero]
      by_cases r2 : T1.take 7 = gP
      case neg =>
        simp [r1, r1', bs_size, b1, x1, hgP, bs_eq_dec, r2]
        refine awp_loop_of (α := SSt) (fun z => 7 ≤ z.i ∧ z.i ≤ 71 ∧ (z.b = true → 72 ≤ T1.length ∧ T1.take 7 = gP ∧ T1[71]? = some 10 ∧ ∀ j, 7 ≤ j → j < z.i → 0 ≤ pv (T1.getD j 0)) ∧ (z.b = false → ¬ shp T1))
          (fun z => [(14, .string (bs [])), (15, .int .i64 e), (16, .string (bs T1)), (17, .bool z.b), (18, .int .i64 z.i)]) (fun _ => H2) (fun z => 71 - z.i) ⟨7, false⟩
          ⟨by show 7 ≤ 7; omega, by show 7 ≤ 71; omega, (fun k => by cases k), fun _ k => r2 ((shp_iff T1).1 k).2.1⟩ ⟨by omega, Nat.le_refl _, fun _ _ e => e, hcl2⟩ (by simp; exact ⟨.string, .int, .string, .bool, .int⟩) ?_
        rintro ⟨i, b⟩ ⟨hi7, hi71, ht, hf⟩
        dsimp only at hi7 hi71 ht hf ⊢
        cases b with
        | false =>
          have hns := hf rfl
          have he6 : e = 6 := by
            rcases hE with ⟨k1, _⟩ | ⟨_, k2⟩
            · exact absurd k1 hns
            · exact k2
          subst he6
          simp [c4_0, bs_lit, hb0]
        | true =>
          obtain ⟨k1, k2, k3, k4⟩ := ht rfl
          by_cases hlt : i < 71
          · have hi' : (i : Int) < 71 := by omega
            have hil : i < T1.length := by omega
            have w4 : IntKind.i64.wrap ((i : Int) + 1) = ((i + 1 : Nat) : Int) := w1 i (by omega)
            have g1 : T1[i]? = some T1[i] := List.getElem?_eq_getElem hil
            have iX : aidx (.int .i64 (i : Int)) T1.length = some i := aidx_of hil
            have gD : T1.getD i 0 = T1[i] := by simp [List.getD, g1]
            obtain ⟨c, hc⟩ : ∃ c, T1[i] = c := ⟨_, rfl⟩
            rw [hc] at g1 gD
            have hres : ∀ bb : Bool, (bb = true ↔ (48 ≤ c.toNat ∧ c.toNat ≤ 57) ∨ (97 ≤ c.toNat ∧ c.toNat ≤ 102)) → 7 ≤ i + 1 ∧ i + 1 ≤ 71 ∧ (bb = true → 72 ≤ T1.length ∧ T1.take 7 = gP ∧ T1[71]? = some 10 ∧ ∀ j, 7 ≤ j → j < i + 1 → 0 ≤ pv (T1.getD j 0)) ∧ (bb = false → ¬ shp T1) := fun bb hbb => by
              rw [← hexdig_iff] at hbb
              refine ⟨by omega, by omega, fun e1 => ⟨k1, k2, k3, fun j j1 j2 => ?_⟩, fun e1 k => ?_⟩
              · by_cases q : j = i
                · rw [q, gD]; exact hbb.1 e1
                · exact k4 j j1 (by omega)
              · have := ((shp_iff T1).1 k).2.2.2 i hi7 hlt
                rw [gD] at this
                rw [e1] at hbb
                exact absurd (hbb.2 this) (by simp)
            have hS : Heap.Sub h.n H2 H2 := ⟨by omega, Nat.le_refl _, fun _ _ e => e, hcl2⟩
            have hm : 71 - (i + 1) < 71 - i := by omega
            by_cases d1 : 48 ≤ c.toNat
            · have d1' : (48 : Int) ≤ (c.toNat : Int) := by omega
              by_cases d2 : c.toNat ≤ 57
              · have d2' : (c.toNat : Int) ≤ 57 := by omega
                simp [c4_0, hi', bs_size, bs_data, iX, g1, hc, d1, d1', d2, d2', w4, -Int.natCast_add]
                exact ⟨⟨i + 1, true⟩, hm, hres true (by simp [d1, d2]), hS, .string, .int, .string, ⟨rfl, .bool⟩, rfl, .int⟩
              · have d2' : ¬ (c.toNat : Int) ≤ 57 := by omega
                by_cases d3 : 97 ≤ c.toNat
                · have d3' : (97 : Int) ≤ (c.toNat : Int) := by omega
                  by_cases d4 : c.toNat ≤ 102
                  · have d4' : (c.toNat : Int) ≤ 102 := by omega
                    simp [c4_0, hi', bs_size, bs_data, iX, g1, hc, d1, d1', d2, d2', d3, d3', d4, d4', w4, -Int.natCast_add]
                    exact ⟨⟨i + 1, true⟩, hm, hres true (by simp [d3, d4]), hS, .string, .int, .string, ⟨rfl, .bool⟩, rfl, .int⟩
                  · have d4' : ¬ (c.toNat : Int) ≤ 102 := by omega
                    simp [c4_0, hi', bs_size, bs_data, iX, g1, hc, d1, d1', d2, d2', d3, d3', d4, d4', w4, -Int.natCast_add]
                    exact ⟨⟨i + 1, false⟩, hm, hres false (by simp [d2, d4]), hS, .string, .int, .string, ⟨rfl, .bool⟩, rfl, .int⟩
                · have d3' : ¬ (97 : Int) ≤ (c.toNat : Int) := by omega
                  simp [c4_0, hi', bs_size, bs_data, iX, g1, hc, d1, d1', d2, d2', d3, d3', w4, -Int.natCast_add]
                  exact ⟨⟨i + 1, false⟩, hm, hres false (by simp [d2, d3]), hS, .string, .int, .string, ⟨rfl, .bool⟩, rfl, .int⟩
            · have d1' : ¬ (48 : Int) ≤ (c.toNat : Int) := by omega
              have d3 : ¬ 97 ≤ c.toNat := by omega
              have d3' : ¬ (97 : Int) ≤ (c.toNat : Int) := by omega
              simp [c4_0, hi', bs_size, bs_data, iX, g1, hc, d1, d1', d3, d3', w4, -Int.natCast_add]
              exact ⟨⟨i + 1, false⟩, hm, hres false (by simp [d1, d3]), hS, .string, .int, .string, ⟨rfl, .bool⟩, rfl, .int⟩
          · have hi' : ¬ (i : Int) < 71 := by omega
            have hsh : shp T1 := (shp_iff T1).2 ⟨k1, k2, k3, fun j j1 j2 => k4 j j1 (by omega)⟩
            have he7 : e = 7 := by
              rcases hE with ⟨_, k⟩ | ⟨k, _⟩
              · exact k
              · exact absurd hsh k
            subst he7
            simp [c4_0, hi', bs_lit, hb0]
      have g71 : T1[71]? = some T1[71] := List.getElem?_eq_getElem (by omega)
      have iX71 : aidx (.int .i64 71) T1.length = some 71 := aidx_of (i := 71) (by omega)
      obtain ⟨d, hd⟩ : ∃ d, T1[71] = d := ⟨_, rfl⟩
      rw [hd] at g71
      by_cases r3 : d = 10
      case neg =>
        have r3' : ¬ (d.toNat : Int) = 10 := fun q => r3 (UInt8.toNat_inj.1 (by show d.toNat = 10; omega))
        have r3'' : ¬ d.toNat = 10 := fun q => r3 (UInt8.toNat_inj.1 q)
        simp [r1, r1', bs_size, bs_data, b1, x1, hgP, bs_eq_dec, r2, iX71, g71, hd, r3, r3', r3'']
        refine awp_loop_of (α := SSt) (fun z => 7 ≤ z.i ∧ z.i ≤ 71 ∧ (z.b = true → 72 ≤ T1.length ∧ T1.take 7 = gP ∧ T1[71]? = some 10 ∧ ∀ j, 7 ≤ j → j < z.i → 0 ≤ pv (T1.getD j 0)) ∧ (z.b = false → ¬ shp T1))
          (fun z => [(14, .string (bs [])), (15, .int .i64 e), (16, .string (bs T1)), (17, .bool z.b), (18, .int .i64 z.i)]) (fun _ => H2) (fun z => 71 - z.i) ⟨7, false⟩
          ⟨by show 7 ≤ 7; omega, by show 7 ≤ 71; omega, (fun k => by cases k), fun _ k => r3 (by simpa [g71] using ((shp_iff T1).1 k).2.2.1)⟩ ⟨by omega, Nat.le_refl _, fun _ _ e => e, hcl2⟩ (by simp; exact ⟨.string, .int, .string, .bool, .int⟩) ?_
        rintro ⟨i, b⟩ ⟨hi7, hi71, ht, hf⟩
        dsimp only at hi7 hi71 ht hf ⊢
        cases b with
        | false =>
          have hns := hf rfl
          have he6 : e = 6 := by
            rcases hE with ⟨k1, _⟩ | ⟨_, k2⟩
            · exact absurd k1 hns
            · exact k2
          subst he6
          simp [c4_0, bs_lit, hb0]
        | true =>
          obtain ⟨k1, k2, k3, k4⟩ := ht rfl
          by_cases hlt : i < 71
          · have hi' : (i : Int) < 71 := by omega
            have hil : i < T1.length := by omega
            have w4 : IntKind.i64.wrap ((i : Int) + 1) = ((i + 1 : Nat) : Int) := w1 i (by omega)
            have g1 : T1[i]? = some T1[i] := List.getElem?_eq_getElem hil
            have iX : aidx (.int .i64 (i : Int)) T1.length = some i := aidx_of hil
            have gD : T1.getD i 0 = T1[i] := by simp [List.getD, g1]
            obtain ⟨c, hc⟩ : ∃ c, T1[i] = c := ⟨_, rfl⟩
            rw [hc] at g1 gD
            have hres : ∀ bb : Bool, (bb = true ↔ (48 ≤ c.toNat ∧ c.toNat ≤ 57) ∨ (97 ≤ c.toNat ∧ c.toNat ≤ 102)) → 7 ≤ i + 1 ∧ i + 1 ≤ 71 ∧ (bb = true → 72 ≤ T1.length ∧ T1.take 7 = gP ∧ T1[71]? = some 10 ∧ ∀ j, 7 ≤ j → j < i + 1 → 0 ≤ pv (T1.getD j 0)) ∧ (bb = false → ¬ shp T1) := fun bb hbb => by
              rw [← hexdig_iff] at hbb
              refine ⟨by omega, by omega, fun e1 => ⟨k1, k2, k3, fun j j1 j2 => ?_⟩, fun e1 k => ?_⟩
              · by_cases q : j = i
                · rw [q, gD]; exact hbb.1 e1
                · exact k4 j j1 (by omega)
              · have := ((shp_iff T1).1 k).2.2.2 i hi7 hlt
                rw [gD] at this
                rw [e1] at hbb
                exact absurd (hbb.2 this) (by simp)
            have hS : Heap.Sub h.n H2 H2 := ⟨by omega, Nat.le_refl _, fun _ _ e => e, hcl2⟩
            have hm : 71 - (i + 1) < 71 - i := by omega
            by_cases d1 : 48 ≤ c.toNat
            · have d1' : (48 : Int) ≤ (c.toNat : Int) := by omega
              by_cases d2 : c.toNat ≤ 57
              · have d2' : (c.toNat : Int) ≤ 57 := by omega
                simp [c4_0, hi', bs_size, bs_data, iX, g1, hc, d1, d1', d2, d2', w4, -Int.natCast_add]
                exact ⟨⟨i + 1, true⟩, hm, hres true (by simp [d1, d2]), hS, .string, .int, .string, ⟨rfl, .bool⟩, rfl, .int⟩
              · have d2' : ¬ (c.toNat : Int) ≤ 57 := by omega
                by_cases d3 : 97 ≤ c.toNat
                · have d3' : (97 : Int) ≤ (c.toNat : Int) := by omega
                  by_cases d4 : c.toNat ≤ 102
                  · have d4' : (c.toNat : Int) ≤ 102 := by omega
                    simp [c4_0, hi', bs_size, bs_data, iX, g1, hc, d1, d1', d2, d2', d3, d3', d4, d4', w4, -Int.natCast_add]
                    exact ⟨⟨i + 1, true⟩, hm, hres true (by simp [d3, d4]), hS, .string, .int, .string, ⟨rfl, .bool⟩, rfl, .int⟩
                  · have d4' : ¬ (c.toNat : Int) ≤ 102 := by omega
                    simp [c4_0, hi', bs_size, bs_data, iX, g1, hc, d1, d1', d2, d2', d3, d3', d4, d4', w4, -Int.natCast_add]
                    exact ⟨⟨i + 1, false⟩, hm, hres false (by simp [d2, d4]), hS, .string, .int, .string, ⟨rfl, .bool⟩, rfl, .int⟩
                · have d3' : ¬ (97 : Int) ≤ (c.toNat : Int) := by omega
                  simp [c4_0, hi', bs_size, bs_data, iX, g1, hc, d1, d1', d2, d2', d3, d3', w4, -Int.natCast_add]
                  exact ⟨⟨i + 1, false⟩, hm, hres false (by simp [d2, d3]), hS, .string, .int, .string, ⟨rfl, .bool⟩, rfl, .int⟩
            · have d1' : ¬ (48 : Int) ≤ (c.toNat : Int) := by omega
              have d3 : ¬ 97 ≤ c.toNat := by omega
              have d3' : ¬ (97 : Int) ≤ (c.toNat : Int) := by omega
              simp [c4_0, hi', bs_size, bs_data, iX, g1, hc, d1, d1', d3, d3', w4, -Int.natCast_add]
              exact ⟨⟨i + 1, false⟩, hm, hres false (by simp [d1, d3]), hS, .string, .int, .string, ⟨rfl, .bool⟩, rfl, .int⟩
          · have hi' : ¬ (i : Int) < 71 := by omega
            have hsh : shp T1 := (shp_iff T1).2 ⟨k1, k2, k3, fun j j1 j2 => k4 j j1 (by omega)⟩
            have he7 : e = 7 := by
              rcases hE with ⟨_, k⟩ | ⟨k, _⟩
              · exact k
              · exact absurd hsh k
            subst he7
            simp [c4_0, hi', bs_lit, hb0]
      subst r3
      simp [r1, r1', bs_size, bs_data, b1, x1, hgP, bs_eq_dec, r2, iX71, g71, hd]
      refine awp_loop_of (α := SSt) (fun z => 7 ≤ z.i ∧ z.i ≤ 71 ∧ (z.b = true → 72 ≤ T1.length ∧ T1.take 7 = gP ∧ T1[71]? = some 10 ∧ ∀ j, 7 ≤ j → j < z.i → 0 ≤ pv (T1.getD j 0)) ∧ (z.b = false → ¬ shp T1))
        (fun z => [(14, .string (bs [])), (15, .int .i64 e), (16, .string (bs T1)), (17, .bool z.b), (18, .int .i64 z.i)]) (fun _ => H2) (fun z => 71 - z.i) ⟨7, true⟩
        ⟨by show 7 ≤ 7; omega, by show 7 ≤ 71; omega, fun _ => ⟨r1, r2, g71, fun j j1 j2 => absurd j2 (by show ¬ j < 7; omega)⟩, (fun k => by cases k)⟩ ⟨by omega, Nat.le_refl _, fun _ _ e => e, hcl2⟩ (by simp; exact ⟨.string, .int, .string, .bool, .int⟩) ?_
      rintro ⟨i, b⟩ ⟨hi7, hi71, ht, hf⟩
      dsimp only at hi7 hi71 ht hf ⊢
      cases b with
      | false =>
        have hns := hf rfl
        have he6 : e = 6 := by
          rcases hE with ⟨k1, _⟩ | ⟨_, k2⟩
          · exact absurd k1 hns
          · exact k2
        subst he6
        simp [c4_0, bs_lit, hb0]
      | true =>
        obtain ⟨k1, k2, k3, k4⟩ := ht rfl
        by_cases hlt : i < 71
        · have hi' : (i : Int) < 71 := by omega
          have hil : i < T1.length := by omega
          have w4 : IntKind.i64.wrap ((i : Int) + 1) = ((i + 1 : Nat) : Int) := w1 i (by omega)
          have g1 : T1[i]? = some T1[i] := List.getElem?_eq_getElem hil
          have iX : aidx (.int .i64 (i : Int)) T1.length = some i := aidx_of hil
          have gD : T1.getD i 0 = T1[i] := by simp [List.getD, g1]
          obtain ⟨c, hc⟩ : ∃ c, T1[i] = c := ⟨_, rfl⟩
          rw [hc] at g1 gD
          have hres : ∀ bb : Bool, (bb = true ↔ (48 ≤ c.toNat ∧ c.toNat ≤ 57) ∨ (97 ≤ c.toNat ∧ c.toNat ≤ 102)) → 7 ≤ i + 1 ∧ i + 1 ≤ 71 ∧ (bb = true → 72 ≤ T1.length ∧ T1.take 7 = gP ∧ T1[71]? = some 10 ∧ ∀ j, 7 ≤ j → j < i + 1 → 0 ≤ pv (T1.getD j 0)) ∧ (bb = false → ¬ shp T1) := fun bb hbb => by
            rw [← hexdig_iff] at hbb
            refine ⟨by omega, by omega, fun e1 => ⟨k1, k2, k3, fun j j1 j2 => ?_⟩, fun e1 k => ?_⟩
            · by_cases q : j = i
              · rw [q, gD]; exact hbb.1 e1
              · exact k4 j j1 (by omega)
            · have := ((shp_iff T1).1 k).2.2.2 i hi7 hlt
              rw [gD] at this
              rw [e1] at hbb
              exact absurd (hbb.2 this) (by simp)
          have hS : Heap.Sub h.n H2 H2 := ⟨by omega, Nat.le_refl _, fun _ _ e => e, hcl2⟩
          have hm : 71 - (i + 1) < 71 - i := by omega
          by_cases d1 : 48 ≤ c.toNat
          · have d1' : (48 : Int) ≤ (c.toNat : Int) := by omega
            by_cases d2 : c.toNat ≤ 57
            · have d2' : (c.toNat : Int) ≤ 57 := by omega
              simp [c4_0, hi', bs_size, bs_data, iX, g1, hc, d1, d1', d2, d2', w4, -Int.natCast_add]
              exact ⟨⟨i + 1, true⟩, hm, hres true (by simp [d1, d2]), hS, .string, .int, .string, ⟨rfl, .bool⟩, rfl, .int⟩
            · have d2' : ¬ (c.toNat : Int) ≤ 57 := by omega
              by_cases d3 : 97 ≤ c.toNat
              · have d3' : (97 : Int) ≤ (c.toNat : Int) := by omega
                by_cases d4 : c.toNat ≤ 102
                · have d4' : (c.toNat : Int) ≤ 102 := by omega
                  simp [c4_0, hi', bs_size, bs_data, iX, g1, hc, d1, d1', d2, d2', d3, d3', d4, d4', w4, -Int.natCast_add]
                  exact ⟨⟨i + 1, true⟩, hm, hres true (by simp [d3, d4]), hS, .string, .int, .string, ⟨rfl, .bool⟩, rfl, .int⟩
                · have d4' : ¬ (c.toNat : Int) ≤ 102 := by omega
                  simp [c4_0, hi', bs_size, bs_data, iX, g1, hc, d1, d1', d2, d2', d3, d3', d4, d4', w4, -Int.natCast_add]
                  exact ⟨⟨i + 1, false⟩, hm, hres false (by simp [d2, d4]), hS, .string, .int, .string, ⟨rfl, .bool⟩, rfl, .int⟩
              · have d3' : ¬ (97 : Int) ≤ (c.toNat : Int) := by omega
                simp [c4_0, hi', bs_size, bs_data, iX, g1, hc, d1, d1', d2, d2', d3, d3', w4, -Int.natCast_add]
                exact ⟨⟨i + 1, false⟩, hm, hres false (by simp [d2, d3]), hS, .string, .int, .string, ⟨rfl, .bool⟩, rfl, .int⟩
          · have d1' : ¬ (48 : Int) ≤ (c.toNat : Int) := by omega
            have d3 : ¬ 97 ≤ c.toNat := by omega
            have d3' : ¬ (97 : Int) ≤ (c.toNat : Int) := by omega
            simp [c4_0, hi', bs_size, bs_data, iX, g1, hc, d1, d1', d3, d3', w4, -Int.natCast_add]
            exact ⟨⟨i + 1, false⟩, hm, hres false (by simp [d1, d3]), hS, .string, .int, .string, ⟨rfl, .bool⟩, rfl, .int⟩
        · have hi' : ¬ (i : Int) < 71 := by omega
          have hsh : shp T1 := (shp_iff T1).2 ⟨k1, k2, k3, fun j j1 j2 => k4 j j1 (by omega)⟩
          have he7 : e = 7 := by
            rcases hE with ⟨_, k⟩ | ⟨k, _⟩
            · exact k
            · exact absurd hsh k
          subst he7
          simp [c4_0, hi', bs_lit, hb0]

/-! two strings come in -/
section
open Go.RowKit Go.ChangeShapes Go.WideShapes
variable {H : Type} {W : World} {enc : TypeId × Value → H}
theorem open_str2 {v : Value} {d : DataW H} {ps : List MemPlace} {r : Reach} {b : Nat} (hval : Value.okWide Tryz.prog W r b 39 v) {sp : Nat → Bool} {hh : Bool} (hd : DataW.Trod enc Tryz.prog W 0 sp hh 39 v d ps) :
    ∃ a c : List UInt8, v = .agg #[.string (bs a), .string (bs c)] := by
  have ct : Tryz.prog.cellsOf 39 = 2 := by kernel_rfl
  have c9 : Tryz.prog.cellsOf 9 = 1 := by kernel_rfl
  obtain ⟨cs, rfl, hsz⟩ : ∃ cs, v = .agg cs ∧ cs.size = 2 := by
    simp only [Value.okWide, Tryz.underlying39] at hval
    obtain ⟨cs, h1, h2, _⟩ := hval
    exact ⟨cs, h1, by rw [h2, ct]⟩
  obtain ⟨fuel, h⟩ := hd
  obtain ⟨xs, m, _, _, _, hl, hx⟩ := DataW.trod_array Tryz.underlying39 h
  obtain ⟨l, rfl⟩ : ∃ l : List Value, cs = l.toArray := ⟨cs.toList, by simp⟩
  have hl2 : l.length = 2 := by simpa using hsz
  match l, hl2 with
  | [a0, a1], _ =>
    match xs, hl with
    | [x0, x1], _ =>
      have f0 : DataW.trod enc Tryz.prog W 0 sp hh m 9 [a0] = some x0 := by
        have q : DataW.trod enc Tryz.prog W 0 sp hh m 9 (([a0, a1].drop (0 * Tryz.prog.cellsOf 9)).take (Tryz.prog.cellsOf 9)) = some x0 := hx 0 (by omega)
        rw [c9] at q
        exact q
      have f1 : DataW.trod enc Tryz.prog W 0 sp hh m 9 [a1] = some x1 := by
        have q : DataW.trod enc Tryz.prog W 0 sp hh m 9 (([a0, a1].drop (1 * Tryz.prog.cellsOf 9)).take (Tryz.prog.cellsOf 9)) = some x1 := hx 1 (by omega)
        rw [c9] at q
        exact q
      obtain ⟨s0, e0, _, _⟩ := DataW.trod_string Tryz.underlying9 (x := x0) f0
      obtain ⟨s1, e1, _, _⟩ := DataW.trod_string Tryz.underlying9 (x := x1) f1
      simp at e0 e1
      exact ⟨s0.data.toList, s1.data.toList, by rw [e0, e1, bs_of s0, bs_of s1]; simp [bs_data]⟩
theorem rel_str2 (μ : Mu) (a c : List UInt8) : VRel μ (.agg #[.string (bs a), .string (bs c)]) (.agg #[.string (bs a), .string (bs c)]) := by
  have key : ∀ i, i < 2 → VRel μ ((#[Value.string (bs a), .string (bs c)] : Array Value).getD i unk) ((#[Value.string (bs a), .string (bs c)] : Array Value).getD i unk) ∧ ((#[Value.string (bs a), .string (bs c)] : Array Value).getD i unk).oneCell' = true := fun i hi => by
    match i, hi with
    | 0, _ => exact ⟨.string, rfl⟩
    | 1, _ => exact ⟨.string, rfl⟩
  exact .agg rfl (fun i hi => (key i hi).1) (fun i hi => (key i hi).2)
end

end Go.Proofs.YtdmloongeohhhaaGreatDoor.sign
