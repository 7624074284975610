/-
  Contracts.
-/
import Derived.Test.YtofoihlcjmghfaaGreatDoorStr
import Derived.Test.YtofoihlcjmghfaaGreatDoorAbEnter
import Derived.Test.YtofoihlcjmghfaaGreatDoorAbStep
import Derived.Test.YtofoihlcjmghfaaGreatDoorProg
import Derived.IntWalk
import Derived.KernelRfl
set_option linter.unusedSimpArgs false
set_option linter.unusedVariables false
set_option linter.unusedSectionVars false
namespace Go.Proofs.YtofoihlcjmghfaaGreatDoor.flds
open Go Go.Ab Go.Proofs Go.RowKit Go.Proofs.YtofoihlcjmghfaaGreatDoor.str
variable [Inhabited TabBox]
variable [Nonempty GF]
set_option maxRecDepth 100000
attribute [local simp] s_ops s_seq s_cond s_cond_t s_cond_f s_block s_exit s_ret s_skip s_then_n s_then_n' s_then_e s_then_e' s_then_r s_then_r' s_block_n s_block_r s_block_e s_post_r s_post_n s_res0 s_res1 s_res2 s_res3 s_res4 s_nil s_cons s_guard s_guard_tt s_guard_ff s_guard_tf s_guard_ft s_guard_u s_call s_kL s_put s_put0 s_set s_tmp s_const s_func s_glob s_init s_mkF s_mkF0 s_mv s_bin s_pick s_op aop oK_some oK_none bK_some bK_none b_add b_sub b_mul b_quo b_rem b_and b_or b_xor b_andNot b_shl b_shr b_eql b_neq b_lss b_leq b_gtr b_geq b_sadd b_seql b_sneq b_slss b_sleq b_sgtr b_sgeq s_draw s_drawT s_tK s_tT s_tF s_tB s_tR s_stage s_stage0 s_kW s_kR s_rc0 s_rc s_rcg rK_some rK_none rG_b rG_u s_callv s_callv_f s_nextM s_postR_r s_postR_n s_resA0 s_resAt s_resAc s_resC s_tup0 s_tup1 s_tup2 s_tup3
def c83_6 : AC := .seq (.seq (.ops [⟨some 80,none,.mv (.tmp 12)⟩,⟨some 81,none,.mv (.tmp 0)⟩,⟨some 82,none,.lenS true (.tmp 81)⟩,⟨some 83,none,.bin .lss (.tmp 80) (.tmp 82)⟩,⟨some 84,none,.mv (.tmp 83)⟩,⟨some 85,some (84,true),.mv (.tmp 0)⟩,⟨some 86,some (84,true),.mv (.tmp 12)⟩,⟨some 87,some (84,true),.iStr (.tmp 85) (.tmp 86)⟩,⟨some 88,some (84,true),.iAddrA 256 1 (.global 0) (.tmp 87)⟩,⟨some 89,some (84,true),.load none (.tmp 88)⟩,⟨some 90,some (84,true),.bin .neq (.tmp 89) (.const (.int .u8 0))⟩,⟨some 91,none,.pick (.tmp 84) (.tmp 90) (.const (.bool false))⟩]) (.cond (.tmp 91) .skip (.exit 6))) (.block 7 (.ops [⟨some 92,none,.mv (.tmp 12)⟩,⟨some 93,none,.bin .add (.tmp 92) (.const (.int .i64 1))⟩,⟨some 12,none,.mv (.tmp 93)⟩]))
def c83_4 : AC := .seq (.seq (.ops [⟨some 57,none,.mv (.tmp 12)⟩,⟨some 58,none,.mv (.tmp 0)⟩,⟨some 59,none,.lenS true (.tmp 58)⟩,⟨some 60,none,.bin .lss (.tmp 57) (.tmp 59)⟩]) (.cond (.tmp 60) .skip (.exit 4))) (.block 5 (.seq (.seq (.ops [⟨some 61,none,.mv (.tmp 0)⟩,⟨some 62,none,.mv (.tmp 12)⟩,⟨some 63,none,.iStr (.tmp 61) (.tmp 62)⟩,⟨some 64,none,.iAddrA 256 1 (.global 0) (.tmp 63)⟩,⟨some 65,none,.load none (.tmp 64)⟩,⟨some 66,none,.bin .eql (.tmp 65) (.const (.int .u8 0))⟩]) (.cond (.tmp 66) (.seq (.ops [⟨some 67,none,.mv (.tmp 12)⟩,⟨some 68,none,.bin .add (.tmp 67) (.const (.int .i64 1))⟩,⟨some 12,none,.mv (.tmp 68)⟩]) (.exit 5)) .skip)) (.seq (.ops [⟨some 69,none,.mv (.tmp 9)⟩,⟨some 70,none,.mv (.tmp 10)⟩,⟨some 71,none,.mv (.tmp 0)⟩,⟨some 72,none,.mv (.tmp 11)⟩,⟨some 73,none,.mv (.tmp 12)⟩,⟨some 74,none,.slS (.tmp 71) (some (.tmp 72)) (some (.tmp 73))⟩,⟨some 75,none,.iAddrS 1 (.tmp 69) (.tmp 70)⟩,⟨none,none,.store 1 (.tmp 75) (.tmp 74)⟩]) (.seq (.ops [⟨some 76,none,.mv (.tmp 10)⟩,⟨some 77,none,.bin .add (.tmp 76) (.const (.int .i64 1))⟩,⟨some 10,none,.mv (.tmp 77)⟩]) (.seq (.ops [⟨some 78,none,.mv (.tmp 12)⟩,⟨some 79,none,.bin .add (.tmp 78) (.const (.int .i64 1))⟩,⟨some 12,none,.mv (.tmp 79)⟩]) (.seq (.block 6 (.loop c83_6)) (.ops [⟨some 94,none,.mv (.tmp 12)⟩,⟨some 11,none,.mv (.tmp 94)⟩])))))))
def c83_2 : AC := .seq (.seq (.ops [⟨some 42,none,.mv (.tmp 12)⟩,⟨some 43,none,.mv (.tmp 0)⟩,⟨some 44,none,.lenS true (.tmp 43)⟩,⟨some 45,none,.bin .lss (.tmp 42) (.tmp 44)⟩,⟨some 46,none,.mv (.tmp 45)⟩,⟨some 47,some (46,true),.mv (.tmp 0)⟩,⟨some 48,some (46,true),.mv (.tmp 12)⟩,⟨some 49,some (46,true),.iStr (.tmp 47) (.tmp 48)⟩,⟨some 50,some (46,true),.iAddrA 256 1 (.global 0) (.tmp 49)⟩,⟨some 51,some (46,true),.load none (.tmp 50)⟩,⟨some 52,some (46,true),.bin .neq (.tmp 51) (.const (.int .u8 0))⟩,⟨some 53,none,.pick (.tmp 46) (.tmp 52) (.const (.bool false))⟩]) (.cond (.tmp 53) .skip (.exit 2))) (.block 3 (.ops [⟨some 54,none,.mv (.tmp 12)⟩,⟨some 55,none,.bin .add (.tmp 54) (.const (.int .i64 1))⟩,⟨some 12,none,.mv (.tmp 55)⟩]))
def c83_0 : AC := .seq (.seq (.ops [⟨some 13,none,.mv (.tmp 6)⟩,⟨some 14,none,.mv (.tmp 0)⟩,⟨some 15,none,.lenS true (.tmp 14)⟩,⟨some 16,none,.bin .lss (.tmp 13) (.tmp 15)⟩]) (.cond (.tmp 16) .skip (.exit 0))) (.seq (.block 1 (.seq (.ops [⟨some 19,none,.mv (.tmp 0)⟩,⟨some 20,none,.mv (.tmp 6)⟩,⟨some 21,none,.iStr (.tmp 19) (.tmp 20)⟩,⟨some 7,none,.mv (.tmp 21)⟩]) (.seq (.ops [⟨some 22,none,.mv (.tmp 5)⟩,⟨some 23,none,.mv (.tmp 7)⟩,⟨some 24,none,.bin .or (.tmp 22) (.tmp 23)⟩,⟨some 5,none,.mv (.tmp 24)⟩]) (.seq (.ops [⟨some 25,none,.mv (.tmp 7)⟩,⟨some 26,none,.iAddrA 256 1 (.global 0) (.tmp 25)⟩,⟨some 27,none,.load none (.tmp 26)⟩,⟨some 28,none,.toInt .i64 (.tmp 27)⟩,⟨some 8,none,.mv (.tmp 28)⟩]) (.seq (.ops [⟨some 29,none,.mv (.tmp 3)⟩,⟨some 30,none,.mv (.tmp 4)⟩,⟨some 31,none,.mv (.tmp 8)⟩,⟨some 32,none,.un .xor (.tmp 31)⟩,⟨some 33,none,.bin .and (.tmp 30) (.tmp 32)⟩,⟨some 34,none,.bin .add (.tmp 29) (.tmp 33)⟩,⟨some 3,none,.mv (.tmp 34)⟩]) (.ops [⟨some 35,none,.mv (.tmp 8)⟩,⟨some 4,none,.mv (.tmp 35)⟩])))))) (.ops [⟨some 17,none,.mv (.tmp 6)⟩,⟨some 18,none,.bin .add (.tmp 17) (.const (.int .i64 1))⟩,⟨some 6,none,.mv (.tmp 18)⟩]))
def c83 : AC := .seq (.ops [⟨some 2,none,.mv (.const (.slice none 0 0))⟩]) (.seq (.ops [⟨some 3,none,.mv (.const (.int .i64 0))⟩]) (.seq (.ops [⟨some 4,none,.mv (.const (.int .i64 1))⟩]) (.seq (.ops [⟨some 5,none,.mv (.const (.int .u8 0))⟩]) (.seq (.seq (.ops [⟨some 6,none,.mv (.const (.int .i64 0))⟩]) (.block 0 (.loop c83_0))) (.seq (.seq (.ops [⟨some 36,none,.mv (.tmp 5)⟩,⟨some 37,none,.bin .geq (.tmp 36) (.const (.int .u8 128))⟩]) (.cond (.tmp 37) (.seq (.ops [⟨some 38,none,.mv (.tmp 0)⟩,⟨some 39,none,.call 114 [.tmp 38,.func 115]⟩,⟨some 2,none,.mv (.tmp 39)⟩]) .ret) .skip)) (.seq (.ops [⟨some 40,none,.mv (.tmp 3)⟩,⟨some 41,none,.mkSl [.string ⟨⟨[]⟩⟩] 16 (.tmp 40) (.tmp 40)⟩,⟨some 9,none,.mv (.tmp 41)⟩]) (.seq (.ops [⟨some 10,none,.mv (.const (.int .i64 0))⟩]) (.seq (.ops [⟨some 11,none,.mv (.const (.int .i64 0))⟩]) (.seq (.ops [⟨some 12,none,.mv (.const (.int .i64 0))⟩]) (.seq (.block 2 (.loop c83_2)) (.seq (.ops [⟨some 56,none,.mv (.tmp 12)⟩,⟨some 11,none,.mv (.tmp 56)⟩]) (.seq (.block 4 (.loop c83_4)) (.seq (.seq (.ops [⟨some 95,none,.mv (.tmp 11)⟩,⟨some 96,none,.mv (.tmp 0)⟩,⟨some 97,none,.lenS true (.tmp 96)⟩,⟨some 98,none,.bin .lss (.tmp 95) (.tmp 97)⟩]) (.cond (.tmp 98) (.ops [⟨some 99,none,.mv (.tmp 9)⟩,⟨some 100,none,.mv (.tmp 10)⟩,⟨some 101,none,.mv (.tmp 0)⟩,⟨some 102,none,.mv (.tmp 11)⟩,⟨some 103,none,.slS (.tmp 101) (some (.tmp 102)) none⟩,⟨some 104,none,.iAddrS 1 (.tmp 99) (.tmp 100)⟩,⟨none,none,.store 1 (.tmp 104) (.tmp 103)⟩]) .skip)) (.seq (.ops [⟨some 105,none,.mv (.tmp 9)⟩,⟨some 2,none,.mv (.tmp 105)⟩]) .ret))))))))))))))
theorem k83 : compF Tryz.prog Tryz.f83 = some (c83, [2]) := by kernel_rfl
theorem n83 : Tryz.f83.ntmps = 106 := by kernel_rfl
def isLow (c : UInt8) : Prop := 97 ≤ c.toNat ∧ c.toNat ≤ 122
structure GA : Prop where
  tab : ∃ T, GT 0 = some T ∧ T.length = 256 ∧ (∀ c, 97 ≤ c → c ≤ 122 → T[c]? = some (.int .u8 0)) ∧ T[32]? = some (.int .u8 1)
theorem ga [x : Nonempty GA] : GA := x.elim id
variable [Nonempty GA]
def sp1 (c : UInt8) : Nat := if c = 32 then 1 else 0
structure FSt where
  n : Nat
  w : Nat
def fstep (z : FSt) (c : UInt8) : FSt := ⟨z.n + (if z.w = 1 ∧ sp1 c = 0 then 1 else 0), sp1 c⟩
def fcount (s : List UInt8) : FSt := s.foldl fstep ⟨0, 1⟩
theorem fcount_snoc (s : List UInt8) (c : UInt8) : fcount (s ++ [c]) = fstep (fcount s) c := by unfold fcount; rw [List.foldl_append]; rfl
theorem fcount_w (s : List UInt8) : (fcount s).w ≤ 1 ∧ (fcount s).n ≤ s.length := by
  have key : ∀ (s : List UInt8) (z : FSt), z.w ≤ 1 → (s.foldl fstep z).w ≤ 1 ∧ (s.foldl fstep z).n ≤ z.n + s.length := fun s => by
    induction s with
    | nil => intro z h; exact ⟨h, by simp⟩
    | cons c r ih =>
      intro z h
      have h1 : (fstep z c).w ≤ 1 := by show sp1 c ≤ 1; unfold sp1; split <;> omega
      have := ih (fstep z c) h1
      refine ⟨this.1, ?_⟩
      have h2 : (fstep z c).n ≤ z.n + 1 := by show z.n + _ ≤ _; split <;> omega
      rw [List.foldl_cons, List.length_cons]
      omega
  have := key s ⟨0, 1⟩ (by decide)
  simpa [fcount] using this
def lowL (l : List UInt8) : Prop := l ≠ [] ∧ ∀ c ∈ l, isLow c
theorem sp1_low {c : UInt8} (h : isLow c) : sp1 c = 0 := by
  unfold sp1
  rw [if_neg]
  rintro rfl
  have := h.1
  exact absurd this (by decide)
theorem fold_low : ∀ (l : List UInt8) (n : Nat), (∀ c ∈ l, isLow c) → l.foldl fstep ⟨n, 0⟩ = ⟨n, 0⟩
  | [], _, _ => rfl
  | c :: l, n, h => by
    rw [List.foldl_cons]
    have h1 := sp1_low (h c (by simp))
    have : fstep ⟨n, 0⟩ c = ⟨n, 0⟩ := by simp [fstep, h1]
    rw [this]
    exact fold_low l n fun d hd => h d (by simp [hd])
theorem fold_word (l : List UInt8) (n : Nat) (h : lowL l) : l.foldl fstep ⟨n, 1⟩ = ⟨n + 1, 0⟩ := by
  obtain ⟨h0, h1⟩ := h
  cases l with
  | nil => exact absurd rfl h0
  | cons c l =>
    rw [List.foldl_cons]
    have h2 := sp1_low (h1 c (by simp))
    have : fstep ⟨n, 1⟩ c = ⟨n + 1, 0⟩ := by simp [fstep, h2]
    rw [this]
    exact fold_low l _ fun d hd => h1 d (by simp [hd])
theorem fold_words : ∀ (W : List (List UInt8)) (n : Nat), W ≠ [] → (∀ w ∈ W, lowL w) → (joinB [32] W).foldl fstep ⟨n, 1⟩ = ⟨n + W.length, 0⟩
  | [], _, h, _ => absurd rfl h
  | [w], n, _, h => by
    have : joinB [32] [w] = w := by simp [joinB]
    rw [this, fold_word w n (h w (by simp))]
    rfl
  | w :: v :: W, n, _, h => by
    have : joinB [32] (w :: v :: W) = w ++ 32 :: joinB [32] (v :: W) := by simp [joinB]
    rw [this, List.foldl_append, fold_word w n (h w (by simp)), List.foldl_cons]
    have h2 : fstep ⟨n + 1, 0⟩ 32 = ⟨n + 1, 1⟩ := rfl
    rw [h2, fold_words (v :: W) (n + 1) (by simp) fun x hx => h x (by simp [hx])]
    simp; omega
def offW (W : List (List UInt8)) (k : Nat) : Nat := ((W.take k).map fun w => w.length + 1).sum
theorem offW_succ (W : List (List UInt8)) (k : Nat) (h : k < W.length) : offW W (k + 1) = offW W k + W[k].length + 1 := by
  unfold offW
  rw [List.take_succ_eq_append_getElem h, List.map_append, List.sum_append]
  simp
  omega
theorem join_drop : ∀ (W : List (List UInt8)) (k : Nat), k < W.length → (joinB [32] W).drop (offW W k) = joinB [32] (W.drop k) ∧ offW W k ≤ (joinB [32] W).length
  | [], k, h => by simp at h
  | w :: W, 0, _ => by simp [offW]
  | [w], k + 1, h => by simp at h
  | w :: v :: W, k + 1, h => by
    have ih := join_drop (v :: W) k (by simpa using h)
    have hj : joinB [32] (w :: v :: W) = w ++ 32 :: joinB [32] (v :: W) := by simp [joinB]
    have ho : offW (w :: v :: W) (k + 1) = w.length + 1 + offW (v :: W) k := by simp [offW]
    rw [hj, ho, List.drop_succ_cons]
    constructor
    · rw [← List.drop_drop, ← List.drop_drop, List.drop_left, List.drop_succ_cons, List.drop_zero]; exact ih.1
    · rw [List.length_append, List.length_cons]; omega
theorem join_at {W : List (List UInt8)} {k : Nat} (h : k < W.length) : (∀ j (hj : j < W[k].length), (joinB [32] W)[offW W k + j]? = some W[k][j]) ∧ (k + 1 < W.length → (joinB [32] W)[offW W k + W[k].length]? = some 32) ∧
    (k + 1 = W.length → (joinB [32] W).length = offW W k + W[k].length) ∧ ((joinB [32] W).drop (offW W k)).take W[k].length = W[k] := by
  obtain ⟨h1, h2⟩ := join_drop W k h
  have hd : W.drop k = W[k] :: W.drop (k + 1) := List.drop_eq_getElem_cons h
  have hj : joinB [32] (W.drop k) = W[k] ++ (W.drop (k + 1)).flatMap (fun x => [32] ++ x) := by rw [hd]; rfl
  rw [hj] at h1
  have hg : ∀ i, (joinB [32] W)[offW W k + i]? = (W[k] ++ (W.drop (k + 1)).flatMap (fun x => [32] ++ x))[i]? := fun i => by rw [← h1, List.getElem?_drop]
  refine ⟨fun j hj => ?_, fun hk => ?_, fun hk => ?_, ?_⟩
  · rw [hg, List.getElem?_append_left hj, List.getElem?_eq_getElem hj]
  · rw [hg, List.getElem?_append_right (Nat.le_refl _), Nat.sub_self, List.drop_eq_getElem_cons hk]; rfl
  · have := congrArg List.length h1
    rw [List.length_drop, hk, List.drop_length] at this
    simp at this
    omega
  · rw [h1, List.take_left]
theorem getI' {s : List UInt8} {i : Nat} {c : UInt8} (h : s[i]? = some c) : i < s.length := (List.getElem?_eq_some_iff.1 h).1
theorem or_small (a b : Nat) (ha : a < 128) (hb : b < 128) : ∃ c : Nat, c < 128 ∧ abits .or .u8 (a : Int) (b : Int) = (c : Int) := by
  have hlt : a ||| b < 2 ^ 7 := Nat.or_lt_two_pow ha hb
  refine ⟨a ||| b, hlt, ?_⟩
  unfold abits
  have e1 : BitVec.ofInt 8 (a : Int) = BitVec.ofNat 8 a := by apply BitVec.eq_of_toNat_eq; simp
  have e2 : BitVec.ofInt 8 (b : Int) = BitVec.ofNat 8 b := by apply BitVec.eq_of_toNat_eq; simp
  show IntKind.u8.wrap (((BitVec.ofInt 8 (a : Int)) ||| (BitVec.ofInt 8 (b : Int))).toNat : Int) = _
  rw [e1, e2, BitVec.toNat_or, BitVec.toNat_ofNat, BitVec.toNat_ofNat, Nat.mod_eq_of_lt (by omega), Nat.mod_eq_of_lt (by omega)]
  unfold IntKind.wrap; simp [IntKind.bits, IntKind.signed]; omega
structure F1S where
  i : Nat
  b : Nat
structure F2S where
  k : Nat
  j : Nat
theorem join_chars {W : List (List UInt8)} (h : ∀ w ∈ W, lowL w) : ∀ c ∈ joinB [32] W, isLow c ∨ c = 32 := fun c hc => by
  cases W with
  | nil => simp [joinB] at hc
  | cons w r =>
    rcases List.mem_append.1 hc with q | q
    · exact .inl ((h w (by simp)).2 c q)
    · obtain ⟨x, hx, hq⟩ := List.mem_flatMap.1 q
      rcases List.mem_append.1 hq with q | q
      · exact .inr (by simpa using q)
      · exact .inl ((h x (by simp [hx])).2 c q)
def cellsK (W : List (List UInt8)) (k : Nat) : List Value := (W.take k).map sv ++ List.replicate (W.length - k) (.string (bs []))
theorem cellsK_put (W : List (List UInt8)) (k : Nat) (h : k < W.length) : aput (cellsK W k) k [.string (bs W[k])] = cellsK W (k + 1) := by
  unfold aput cellsK
  have hl : ((W.take k).map sv).length = k := by rw [List.length_map, List.length_take]; omega
  have ht : ((W.take k).map sv ++ List.replicate (W.length - k) (Value.string (bs []))).take k = (W.take k).map sv := by
    rw [List.take_append_of_le_length (by omega), List.take_of_length_le (by omega)]
  have hd : ((W.take k).map sv ++ List.replicate (W.length - k) (Value.string (bs []))).drop (k + 1) = List.replicate (W.length - (k + 1)) (.string (bs [])) := by
    rw [List.drop_append, List.drop_eq_nil_of_le (by omega), List.nil_append, hl, List.drop_replicate]
    congr 1; omega
  rw [List.length_singleton, ht, hd, List.take_succ_eq_append_getElem h, List.map_append]
  rfl
theorem cellsK_len (W : List (List UInt8)) (k : Nat) (h : k ≤ W.length) : (cellsK W k).length = W.length := by
  unfold cellsK
  rw [List.length_append, List.length_map, List.length_take, List.length_replicate]; omega
theorem cellsK_all (W : List (List UInt8)) : cellsK W W.length = W.map sv := by
  unfold cellsK
  rw [List.take_of_length_le (Nat.le_refl _), Nat.sub_self]; simp
theorem cellsK_bel {n : Nat} {W : List (List UInt8)} {k : Nat} : ∀ x ∈ cellsK W k, VBelow n x := fun x hx => by
  rcases List.mem_append.1 hx with q | q
  · obtain ⟨y, _, rfl⟩ := List.mem_map.1 q; exact .string
  · rw [(List.mem_replicate.1 q).2]; exact .string
theorem fields_ok (W : List (List UInt8)) (hW : W ≠ []) (hl : ∀ w ∈ W, lowL w) (hlen : (joinB [32] W).length ≤ 1000) (h : Heap) :
    ACalls Tryz.prog 83 [.string (bs (joinB [32] W))] h fun v h' => v = .slice (some ⟨h.n, 0, none⟩) W.length W.length ∧ h' = h.push (.cells (W.map sv) .ex 1) := by
  obtain ⟨T, hT, hTl, hT0, hT1⟩ := ga.tab
  have hch := join_chars hl
  have hfw := fold_words W 0 hW hl
  rw [Nat.zero_add] at hfw
  have hWl : W.length ≤ 1000 := by
    have h1 := (fcount_w (joinB [32] W)).2
    have h2 : (fcount (joinB [32] W)).n = W.length := by unfold fcount; rw [hfw]
    omega
  have hat := fun k (hk : k < W.length) => join_at hk
  have hoff : ∀ k (hk : k < W.length), offW W k + W[k].length ≤ (joinB [32] W).length := fun k hk => by
    obtain ⟨q1, q2, q3, _⟩ := hat k hk
    by_cases e : k + 1 = W.length
    · rw [q3 e]; exact Nat.le_refl _
    · have := getI' (q2 (by omega)); omega
  refine acalls_of mix Tryz.func83 k83 n83 (by simp) fun hcl hb => ?_
  have tabS : ∀ c : UInt8, isLow c ∨ c = 32 → T[c.toNat]? = some (.int .u8 ((sp1 c : Nat) : Int)) ∧ c.toNat < 128 := fun c hc => by
    rcases hc with q | rfl
    · exact ⟨by rw [hT0 _ q.1 q.2, sp1_low q]; rfl, by have := q.2; omega⟩
    · exact ⟨hT1, by decide⟩
  simp only [c83, s_seq, s_ops]
  simp
  generalize hS : joinB [32] W = S at *
  refine awp_loop_of (α := F1S) (fun z => z.i ≤ S.length ∧ z.b < 128) (fun z => [(0, .string (bs S)), (3, .int .i64 ((fcount (S.take z.i)).n : Nat)), (4, .int .i64 ((fcount (S.take z.i)).w : Nat)), (5, .int .u8 z.b), (6, .int .i64 z.i)]) (fun _ => h) (fun z => S.length - z.i) ⟨0, 0⟩
    ⟨Nat.zero_le _, by decide⟩ (Heap.Sub.refl hcl) (by simp [fcount]; exact ⟨.string, .int, .int, .int, .int⟩) ?_
  rintro ⟨i, b⟩ ⟨hi, hb128⟩
  dsimp only at hi hb128 ⊢
  by_cases hlt : i < S.length
  · have hi' : (i : Int) < (S.length : Int) := by omega
    have w4 : IntKind.i64.wrap ((i : Int) + 1) = ((i + 1 : Nat) : Int) := w1 i (by omega)
    have g1 : S[i]? = some S[i] := List.getElem?_eq_getElem hlt
    have iX : aidx (.int .i64 (i : Int)) S.length = some i := aidx_of hlt
    have hstep : fcount (S.take (i + 1)) = fstep (fcount (S.take i)) S[i] := by rw [List.take_succ_eq_append_getElem hlt, fcount_snoc]
    obtain ⟨hw, hn⟩ := fcount_w (S.take i)
    obtain ⟨t1, t2⟩ := tabS S[i] (hch _ (List.getElem_mem hlt))
    generalize fcount (S.take i) = z at *
    generalize hcc : S[i] = c at *
    obtain ⟨b2, hb2, hor⟩ := or_small b c.toNat hb128 t2
    have i256 : aidx (.int .u8 (c.toNat : Int)) 256 = some c.toNat := aidx_of (by omega)
    have hz : z.n ≤ 1000 := by rw [List.length_take] at hn; omega
    have x0 : aun .xor (.int .i64 0) = some (.int .i64 (-1)) := rfl
    have x1 : aun .xor (.int .i64 1) = some (.int .i64 (-2)) := rfl
    have a1 : abits .and .i64 1 (-1) = 1 := by decide
    have a2 : abits .and .i64 1 (-2) = 0 := by decide
    have a3 : abits .and .i64 0 (-1) = 0 := by decide
    have a4 : abits .and .i64 0 (-2) = 0 := by decide
    have w0 : IntKind.i64.wrap 0 = 0 := rfl
    have w11 : IntKind.i64.wrap 1 = 1 := rfl
    have wn : IntKind.i64.wrap (z.n : Int) = (z.n : Int) := i64w _ (by omega)
    have wn1 : IntKind.i64.wrap ((z.n : Int) + 1) = ((z.n + 1 : Nat) : Int) := w1 _ (by omega)
    have hs1 : sp1 c = 0 ∨ sp1 c = 1 := by unfold sp1; split <;> simp
    have hfin : ∀ n' w' : Nat, (fstep z c).n = n' → (fstep z c).w = w' → (fcount (S.take (i + 1))).n = n' ∧ (fcount (S.take (i + 1))).w = w' := fun n' w' q1 q2 => by rw [hstep]; exact ⟨q1, q2⟩
    have hzw : z.w = 0 ∨ z.w = 1 := by omega
    rcases hs1 with e1 | e1 <;> rcases hzw with e2 | e2
    · obtain ⟨f1, f2⟩ := hfin z.n 0 (by simp [fstep, e1, e2]) e1
      rw [e1] at t1
      simp [c83_0, hi', bs_size, bs_data, iX, g1, hcc, i256, hor, hT, apart, t1, e2, x0, a3, w0, wn, w4, -Int.natCast_add]
      exact ⟨⟨i + 1, b2⟩, by show S.length - (i + 1) < S.length - i; omega, ⟨by show i + 1 ≤ S.length; omega, hb2⟩, Heap.Sub.refl hcl, .string, ⟨by show _ = (((fcount (S.take (i + 1))).n : Nat) : Int); rw [f1], .int⟩, ⟨by show _ = (((fcount (S.take (i + 1))).w : Nat) : Int); rw [f2]; rfl, .int⟩, ⟨rfl, .int⟩, rfl, .int⟩
    · obtain ⟨f1, f2⟩ := hfin (z.n + 1) 0 (by simp [fstep, e1, e2]) e1
      rw [e1] at t1
      simp [c83_0, hi', bs_size, bs_data, iX, g1, hcc, i256, hor, hT, apart, t1, e2, x0, a1, w0, w11, wn1, w4, -Int.natCast_add]
      exact ⟨⟨i + 1, b2⟩, by show S.length - (i + 1) < S.length - i; omega, ⟨by show i + 1 ≤ S.length; omega, hb2⟩, Heap.Sub.refl hcl, .string, ⟨by show _ = (((fcount (S.take (i + 1))).n : Nat) : Int); rw [f1], .int⟩, ⟨by show _ = (((fcount (S.take (i + 1))).w : Nat) : Int); rw [f2]; rfl, .int⟩, ⟨rfl, .int⟩, rfl, .int⟩
    · obtain ⟨f1, f2⟩ := hfin z.n 1 (by simp [fstep, e1, e2]) e1
      rw [e1] at t1
      simp [c83_0, hi', bs_size, bs_data, iX, g1, hcc, i256, hor, hT, apart, t1, e2, x1, a4, w0, w11, wn, w4, -Int.natCast_add]
      exact ⟨⟨i + 1, b2⟩, by show S.length - (i + 1) < S.length - i; omega, ⟨by show i + 1 ≤ S.length; omega, hb2⟩, Heap.Sub.refl hcl, .string, ⟨by show _ = (((fcount (S.take (i + 1))).n : Nat) : Int); rw [f1], .int⟩, ⟨by show _ = (((fcount (S.take (i + 1))).w : Nat) : Int); rw [f2]; rfl, .int⟩, ⟨rfl, .int⟩, rfl, .int⟩
    · obtain ⟨f1, f2⟩ := hfin z.n 1 (by simp [fstep, e1, e2]) e1
      rw [e1] at t1
      simp [c83_0, hi', bs_size, bs_data, iX, g1, hcc, i256, hor, hT, apart, t1, e2, x1, a2, w0, w11, wn, w4, -Int.natCast_add]
      exact ⟨⟨i + 1, b2⟩, by show S.length - (i + 1) < S.length - i; omega, ⟨by show i + 1 ≤ S.length; omega, hb2⟩, Heap.Sub.refl hcl, .string, ⟨by show _ = (((fcount (S.take (i + 1))).n : Nat) : Int); rw [f1], .int⟩, ⟨by show _ = (((fcount (S.take (i + 1))).w : Nat) : Int); rw [f2]; rfl, .int⟩, ⟨rfl, .int⟩, rfl, .int⟩
  · have hie : i = S.length := by omega
    subst hie
    have hi' : ¬ (S.length : Int) < (S.length : Int) := by omega
    have hfc : fcount (S.take S.length) = ⟨W.length, 0⟩ := by rw [List.take_of_length_le (Nat.le_refl _)]; exact hfw
    rw [hfc]
    have hb' : ¬ (128 : Int) ≤ (b : Int) := by omega
    have hb'' : ¬ 128 ≤ b := by omega
    have hm1 : W.length * 17 ≤ 1099511627776 := by omega
    have hm2 : (W.length : Int) * 17 ≤ 1099511627776 := by omega
    have hW1 : 0 < W.length := by cases W with | nil => exact absurd rfl hW | cons a b => simp
    have hfl : (List.replicate W.length [Value.string (bs [])]).flatten = cellsK W 0 := by
      unfold cellsK
      simp
    have hne : ∀ k (hk : k < W.length), 0 < W[k].length := fun k hk => by
      have := (hl W[k] (List.getElem_mem hk)).1
      cases hx : W[k] with
      | nil => exact absurd hx this
      | cons a b => simp
    have hc0 : ∀ k, (h.push (.cells (cellsK W k) .ex 1)).Closed := fun k => closed_push hcl cellsK_bel
    have fK : ∀ k, (h.push (.cells (cellsK W k) .ex 1)).cellsOf h.n = some (cellsK W k, .ex, 1) := fun k => cellsOf_new _ _ _ _
    have hlow : ∀ k (hk : k < W.length) j (hj : j < W[k].length), T[W[k][j].toNat]? = some (.int .u8 0) ∧ W[k][j].toNat < 128 := fun k hk j hj => by
      have q := (hl W[k] (List.getElem_mem hk)).2 W[k][j] (List.getElem_mem hj)
      have := tabS _ (.inl q)
      rw [sp1_low q] at this
      exact this
    simp [c83_0, bs_size, hb', hb'', hm1, hm2, bs_lit, hfl]
    refine awp_loop_of (α := F1S) (fun z => z.i = 0) (fun z => [(0, .string (bs S)), (9, .slice (some ⟨h.n, 0, none⟩) W.length W.length), (10, .int .i64 0), (12, .int .i64 0)]) (fun _ => h.push (.cells (cellsK W 0) .ex 1)) (fun z => 0) ⟨0, 0⟩
      rfl ⟨by show h.n ≤ h.n + 1; omega, Nat.le_refl _, fun _ _ e => e, hc0 0⟩ (by simp; exact ⟨.string, vb_slice (by show h.n < h.n + 1; omega), .int⟩) ?_
    rintro ⟨_, _⟩ _
    have hS0 : 0 < S.length := by have := hoff 0 hW1; have := hne 0 hW1; omega
    have hS0' : (0 : Int) < (S.length : Int) := by omega
    have i0 : aidx (.int .i64 0) S.length = some 0 := aidx_of (i := 0) hS0
    obtain ⟨a0, _, _, _⟩ := hat 0 hW1
    have g0 : S[0]? = some (W[0][0]'(hne 0 hW1)) := by
      have := a0 0 (hne 0 hW1)
      simpa [offW] using this
    obtain ⟨u0, u1⟩ := hlow 0 hW1 0 (hne 0 hW1)
    generalize hcc : W[0][0]'(hne 0 hW1) = c at *
    have i256 : aidx (.int .u8 (c.toNat : Int)) 256 = some c.toNat := aidx_of (by omega)
    have hS00 : S ≠ [] := fun q => by rw [q] at hS0; simp at hS0
    have hga : S[0]'hS0 = c := by have := List.getElem?_eq_getElem hS0; rw [g0] at this; exact (Option.some.inj this).symm
    simp [c83_2, hS0', hS00, hS0, hga, bs_size, bs_data, i0, g0, i256, hT, apart, u0, -Int.natCast_add]
    refine awp_loop_of (α := F2S) (fun z => ∃ hk : z.k < W.length, z.j ≤ W[z.k].length) (fun z => [(0, .string (bs S)), (9, .slice (some ⟨h.n, 0, none⟩) W.length W.length), (10, .int .i64 z.k), (11, .int .i64 (offW W z.k)), (12, .int .i64 (offW W z.k + z.j : Nat))])
      (fun z => h.push (.cells (cellsK W z.k) .ex 1)) (fun z => S.length + 1 - (offW W z.k + z.j)) ⟨0, 0⟩
      ⟨hW1, Nat.zero_le _⟩ ⟨by show h.n ≤ h.n + 1; omega, Nat.le_refl _, fun _ _ e => e, hc0 0⟩ (by simp [offW]; exact ⟨.string, vb_slice (by show h.n < h.n + 1; omega), .int⟩) ?_
    rintro ⟨k, j⟩ ⟨hk, hj⟩
    dsimp only at hk hj ⊢
    have hok := hoff k hk
    obtain ⟨q1, q2, q3, q4⟩ := hat k hk
    by_cases hjl : j < W[k].length
    · have hi' : ((offW W k + j : Nat) : Int) < (S.length : Int) := by omega
      have iX : aidx (.int .i64 ((offW W k + j : Nat) : Int)) S.length = some (offW W k + j) := aidx_of (by omega)
      have w4 : IntKind.i64.wrap (((offW W k + j : Nat) : Int) + 1) = ((offW W k + j + 1 : Nat) : Int) := w1 _ (by omega)
      obtain ⟨u2, u3⟩ := hlow k hk j hjl
      have g2 := q1 j hjl
      generalize W[k][j] = d at *
      have i256' : aidx (.int .u8 (d.toNat : Int)) 256 = some d.toNat := aidx_of (by omega)
      have hgd : S[offW W k + j]'(by omega) = d := by have := List.getElem?_eq_getElem (l := S) (i := offW W k + j) (by omega); rw [g2] at this; exact (Option.some.inj this).symm
      simp [c83_4, hi', bs_size, bs_data, iX, g2, hgd, i256', hT, apart, u2, w4, -Int.natCast_add]
      exact ⟨⟨k, j + 1⟩, by show S.length + 1 - (offW W k + (j + 1)) < S.length + 1 - (offW W k + j); omega, ⟨hk, by show j + 1 ≤ W[k].length; omega⟩, ⟨by show h.n ≤ h.n + 1; omega, Nat.le_refl _, fun _ _ e => e, hc0 k⟩, .string, vb_slice (by show h.n < h.n + 1; omega), ⟨rfl, .int⟩, ⟨rfl, .int⟩, rfl, .int⟩
    · have hje : j = W[k].length := by omega
      subst hje
      by_cases hlast : k + 1 = W.length
      · have hSl := q3 hlast
        have hi' : ¬ ((offW W k + W[k].length : Nat) : Int) < (S.length : Int) := by omega
        have hfs : ((offW W k : Nat) : Int) < (S.length : Int) := by have := hne k hk; omega
        have b1 : abounds S.length S.length (some (.int .i64 (offW W k : Int))) none none = some (offW W k, S.length, S.length) := abounds_lo (by omega) (Nat.le_refl _)
        have x1 : (bs S).extract (offW W k) S.length = bs W[k] := by
          rw [bs_extract, List.take_of_length_le (Nat.le_refl _)]
          congr 1
          rw [← q4, List.take_of_length_le (by rw [List.length_drop]; omega)]
        have iK : aidx (.int .i64 (k : Int)) W.length = some k := aidx_of hk
        have hput := cellsK_put W k hk
        have hcl' := cellsK_len W k (by omega)
        have hkk : k + 1 ≤ W.length := by omega
        have hall := cellsK_all W
        rw [← hlast] at hall
        simp [c83_4, hi', hfs, bs_size, b1, x1, iK, fK, set_push, hput, hcl', hkk, mcells, -Int.natCast_add]
        rw [hall]
      · have hk1 : k + 1 < W.length := by omega
        have g2 := q2 hk1
        have hlt := getI' g2
        have hi' : ((offW W k + W[k].length : Nat) : Int) < (S.length : Int) := by omega
        have iX : aidx (.int .i64 ((offW W k + W[k].length : Nat) : Int)) S.length = some (offW W k + W[k].length) := aidx_of hlt
        have w4 : IntKind.i64.wrap (((offW W k + W[k].length : Nat) : Int) + 1) = ((offW W k + W[k].length + 1 : Nat) : Int) := w1 _ (by omega)
        have wk : IntKind.i64.wrap ((k : Int) + 1) = ((k + 1 : Nat) : Int) := w1 _ (by omega)
        have hgd : S[offW W k + W[k].length]'hlt = 32 := by have := List.getElem?_eq_getElem hlt; rw [g2] at this; exact (Option.some.inj this).symm
        have i32 : aidx (.int .u8 32) 256 = some 32 := aidx_of (i := 32) (by omega)
        have b1 : abounds S.length S.length (some (.int .i64 (offW W k : Int))) (some (.int .i64 ((offW W k + W[k].length : Nat) : Int))) none = some (offW W k, offW W k + W[k].length, S.length) := abounds_lohi (by omega) (by omega)
        have x1 : (bs S).extract (offW W k) (offW W k + W[k].length) = bs W[k] := by
          rw [bs_extract, List.drop_take, Nat.add_sub_cancel_left]
          congr 1
        have iK : aidx (.int .i64 (k : Int)) W.length = some k := aidx_of hk
        have hput := cellsK_put W k hk
        have hcl' := cellsK_len W k (by omega)
        have hos := offW_succ W k hk
        have hkk : k + 1 ≤ W.length := by omega
        simp [c83_4, hi', bs_size, bs_data, iX, g2, hgd, i32, hT, hT1, apart, w4, wk, b1, x1, iK, fK, set_push, hput, hcl', hkk, mcells, -Int.natCast_add]
        refine awp_loop_of (α := F1S) (fun z => True) (fun z => [(0, .string (bs S)), (9, .slice (some ⟨h.n, 0, none⟩) W.length W.length), (10, .int .i64 (k + 1 : Nat)), (12, .int .i64 (offW W (k + 1)))]) (fun _ => h.push (.cells (cellsK W (k + 1)) .ex 1)) (fun z => 0) ⟨0, 0⟩
          trivial ⟨by show h.n ≤ h.n + 1; omega, Nat.le_refl _, fun _ _ e => e, hc0 _⟩ (by simp [hos, -Int.natCast_add]; exact ⟨.string, vb_slice (by show h.n < h.n + 1; omega), .int, .int⟩) ?_
        rintro ⟨_, _⟩ _
        have hok1 := hoff (k + 1) hk1
        have hn1 := hne (k + 1) hk1
        have hS1 : offW W (k + 1) < S.length := by omega
        have hS1' : (offW W (k + 1) : Int) < (S.length : Int) := by omega
        have i1 : aidx (.int .i64 (offW W (k + 1) : Int)) S.length = some (offW W (k + 1)) := aidx_of hS1
        obtain ⟨a1, _, _, _⟩ := hat (k + 1) hk1
        have g1 := a1 0 hn1
        rw [Nat.add_zero] at g1
        obtain ⟨v0, v1⟩ := hlow (k + 1) hk1 0 hn1
        generalize W[k + 1][0]'hn1 = d at *
        have i257 : aidx (.int .u8 (d.toNat : Int)) 256 = some d.toNat := aidx_of (by omega)
        have hgd1 : S[offW W (k + 1)]'hS1 = d := by have := List.getElem?_eq_getElem hS1; rw [g1] at this; exact (Option.some.inj this).symm
        simp [c83_6, hS1', hS1, hgd1, bs_size, bs_data, i1, g1, i257, hT, apart, v0, -Int.natCast_add]
        exact ⟨⟨k + 1, 0⟩, by show S.length + 1 - (offW W (k + 1) + 0) < S.length + 1 - (offW W k + W[k].length); omega, ⟨hk1, Nat.zero_le _⟩, ⟨by show h.n ≤ h.n + 1; omega, Nat.le_refl _, fun _ _ e => e, hc0 _⟩, .string, vb_slice (by show h.n < h.n + 1; omega), ⟨rfl, .int⟩, ⟨rfl, .int⟩, rfl, .int⟩

end Go.Proofs.YtofoihlcjmghfaaGreatDoor.flds

