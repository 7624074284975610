/-
  Contracts.
-/
import Derived.Test.YtofoihlcjmghfaaGreatDoorAbStep
import Derived.Test.YtofoihlcjmghfaaGreatDoorProg
import Derived.IntWalk
import Derived.KernelRfl
set_option linter.unusedSimpArgs false
set_option linter.unusedVariables false
set_option linter.unusedSectionVars false
namespace Go.Proofs.YtofoihlcjmghfaaGreatDoor.str
open Go Go.Ab Go.Proofs Go.RowKit
variable [Inhabited TabBox]
set_option maxRecDepth 100000
attribute [local simp] s_ops s_seq s_cond s_cond_t s_cond_f s_block s_exit s_ret s_skip s_then_n s_then_n' s_then_e s_then_e' s_then_r s_then_r' s_block_n s_block_r s_block_e s_post_r s_post_n s_res0 s_res1 s_res2 s_res3 s_res4 s_nil s_cons s_guard s_guard_tt s_guard_ff s_guard_tf s_guard_ft s_guard_u s_call s_kL s_put s_put0 s_set s_tmp s_const s_func s_glob s_init s_mkF s_mkF0 s_mv s_bin s_pick s_op aop oK_some oK_none bK_some bK_none b_add b_sub b_mul b_quo b_rem b_and b_or b_xor b_andNot b_shl b_shr b_eql b_neq b_lss b_leq b_gtr b_geq b_sadd b_seql b_sneq b_slss b_sleq b_sgtr b_sgeq s_draw s_drawT s_tK s_tT s_tF s_tB s_tR s_stage s_stage0 s_kW s_kR s_rc0 s_rc s_rcg rK_some rK_none rG_b rG_u s_callv s_callv_f s_nextM s_postR_r s_postR_n s_resA0 s_resAt s_resAc s_resC s_tup0 s_tup1 s_tup2 s_tup3
theorem mix : Tryz.prog.follows .mixedOrders = true := by kernel_rfl
structure GF : Prop where
  pow : GT 5 = some ((List.range 20).map fun k => Value.int .u64 ((10 ^ k : Nat) : Int))
theorem gf [x : Nonempty GF] : GF := x.elim id
def bs (l : List UInt8) : ByteArray := ⟨l.toArray⟩
theorem bs_of (s : ByteArray) : s = bs s.data.toList := by cases s; simp [bs]
theorem bs_size (l : List UInt8) : (bs l).size = l.length := by show l.toArray.size = _; simp
theorem bs_data (l : List UInt8) : (bs l).data.toList = l := by simp [bs]
theorem bs_inj {a b : List UInt8} : bs a = bs b ↔ a = b := by
  unfold bs
  rw [ByteArray.mk.injEq]
  exact ⟨fun q => List.toArray_inj q, fun q => by rw [q]⟩
theorem bs_append (a b : List UInt8) : bs a ++ bs b = bs (a ++ b) := by
  apply ByteArray.ext
  rw [ByteArray.data_append]
  simp [bs]
theorem bs_extract (a : List UInt8) (i j : Nat) : (bs a).extract i j = bs ((a.take j).drop i) := by
  apply ByteArray.ext
  rw [ByteArray.data_extract]
  simp [bs, List.extract_eq_take_drop, List.drop_take]
theorem bs_lit (l : List UInt8) : (⟨⟨l⟩⟩ : ByteArray) = bs l := rfl
theorem bs_mk (l : List UInt8) : (⟨l.toArray⟩ : ByteArray) = bs l := rfl
def eb (c : UInt8) : Value := .int .u8 (c.toNat : Int)
def ubs (l : List UInt8) : List Value := l.map eb
theorem ubs_len (l : List UInt8) : (ubs l).length = l.length := List.length_map _
theorem ubs_app (a b : List UInt8) : ubs (a ++ b) = ubs a ++ ubs b := List.map_append
theorem ubs_get {l : List UInt8} {i : Nat} (h : i < l.length) : (ubs l)[i]? = some (.int .u8 (l[i].toNat : Int)) := by
  unfold ubs
  simp only [List.getElem?_map, List.getElem?_eq_getElem h]
  rfl
theorem ubs_bel {n : Nat} {l : List UInt8} : ∀ x ∈ ubs l, VBelow n x := fun x hx => by obtain ⟨y, _, rfl⟩ := List.mem_map.1 hx; exact .int
theorem abytes_ubs : ∀ l : List UInt8, abytes (ubs l) = some l
  | [] => rfl
  | c :: l => by
    have := abytes_ubs l
    simp only [ubs, List.map_cons, eb, abytes] at this ⊢
    rw [this]
    simp
theorem cellsOf_new (h : Heap) (c : List Value) (m : BMode) (e : Nat) : (h.push (.cells c m e)).cellsOf h.n = some (c, m, e) := by simp [Heap.cellsOf, push_m]
theorem cellsOf_set (h : Heap) (b : Nat) (c : List Value) (m : BMode) (e : Nat) : (h.set b (.cells c m e)).cellsOf b = some (c, m, e) := by simp [Heap.cellsOf, set_m]
theorem cellsOf_setne (h : Heap) {b b' : Nat} (hb : b' ≠ b) (o : AObj) : (h.set b o).cellsOf b' = h.cellsOf b' := by simp [Heap.cellsOf, set_m, hb]
theorem cellsOf_ne {h : Heap} {b : Nat} (hb : ¬ b = h.n) (o : AObj) : (h.push o).cellsOf b = h.cellsOf b := by simp [Heap.cellsOf, push_m, hb]
theorem m_of_cells {h : Heap} {b : Nat} {c : List Value} {m : BMode} {e : Nat} (hb : h.cellsOf b = some (c, m, e)) : h.m b = some (.cells c m e) := by
  unfold Heap.cellsOf at hb
  split at hb
  · rename_i c' m' e' hx; cases hb; exact hx
  · cases hb
theorem set_same {h : Heap} {b : Nat} {o : AObj} (e : h.m b = some o) : h.set b o = h := by
  unfold Heap.set
  have : (fun b' => if b' = b then some o else h.m b') = h.m := by
    funext x
    split
    · rename_i hx; rw [hx, e]
    · rfl
  rw [this]
theorem set_push (h : Heap) (o o' : AObj) : (h.push o).set h.n o' = h.push o' := by
  unfold Heap.set Heap.push
  congr 1
  funext x
  dsimp only
  split <;> rfl
theorem set_set (h : Heap) (b : Nat) (o o' : AObj) : (h.set b o).set b o' = h.set b o' := by
  unfold Heap.set
  congr 1
  funext x
  dsimp only
  split <;> rfl
theorem abounds_lohi {L l k : Nat} {x y : IntKind} (h1 : l ≤ k) (h2 : k ≤ L) : abounds L L (some (.int x (l : Int))) (some (.int y (k : Int))) none = some (l, k, L) := by
  unfold abounds
  have e1 : abound (.int y (k : Int)) L = some k := by unfold abound; simp only; rw [if_pos ⟨by omega, by omega⟩]; rfl
  have e2 : abound (.int x (l : Int)) k = some l := by unfold abound; simp only; rw [if_pos ⟨by omega, by omega⟩]; rfl
  simp [e1, e2]
theorem abounds_hi {L C k : Nat} {y : IntKind} (h2 : k ≤ C) : abounds L C none (some (.int y (k : Int))) none = some (0, k, C) := by
  unfold abounds
  have e1 : abound (.int y (k : Int)) C = some k := by unfold abound; simp only; rw [if_pos ⟨by omega, by omega⟩]; rfl
  simp [e1]
theorem abounds_lo {L C l : Nat} {x : IntKind} (h1 : l ≤ L) (h2 : L ≤ C) : abounds L C (some (.int x (l : Int))) none none = some (l, L, C) := by
  unfold abounds
  have e2 : abound (.int x (l : Int)) L = some l := by unfold abound; simp only; rw [if_pos ⟨by omega, by omega⟩]; rfl
  simp [e2, h2]
theorem i64w (n : Nat) (h : n < 9223372036854775808) : IntKind.i64.wrap (n : Int) = (n : Int) := IntWalk.i64_in _ (by omega)
theorem w1 (n : Nat) (h : n < 9223372036854775807) : IntKind.i64.wrap ((n : Int) + 1) = ((n + 1 : Nat) : Int) := by rw [IntWalk.i64_in _ (by omega)]; omega
theorem acut_all (l : List Value) : acut l 0 l.length = some l := by unfold acut; simp
theorem acut_full {l : List Value} {n : Nat} (h : l.length = n) : acut l 0 n = some l := by rw [← h]; exact acut_all l
theorem aput_len {c vs : List Value} {o : Nat} (h : o + vs.length ≤ c.length) : (aput c o vs).length = c.length := by
  unfold aput
  simp
  omega
theorem calls_weak {P : Program} {g : FuncId} {args : List Value} {h : Heap} {R R' : Value → Heap → Prop} (hh : ACalls P g args h R)
    (hr : ∀ v h', R v h' → ∃ v2, (∀ μ x, VRel μ v x → VRel μ v2 x) ∧ R' v2 h') : ACalls P g args h R' :=
  fun B μ w args' rel la => (hh B μ w args' rel la).mono fun _ _ ⟨v, v', h', μ', e, r, hr', b, x, l, q⟩ => by
    obtain ⟨v2, hv, q'⟩ := hr _ _ q
    exact ⟨v2, v', h', μ', e, hv _ _ r, hr', b, x, l, q'⟩
def sv (l : List UInt8) : Value := .string (bs l)
variable [Nonempty GF]

def c150 : AC := .seq (.ops [⟨some 4,none,.mv (.const (.int .i64 0))⟩]) (.seq (.ops [⟨some 5,none,.mv (.tmp 0)⟩,⟨some 6,none,.mv (.tmp 1)⟩,⟨some 7,none,.idxB (.tmp 5) (.tmp 6)⟩,⟨some 4,none,.mv (.tmp 7)⟩]) .ret)
theorem k150 : compF Tryz.prog Tryz.f150 = some (c150, [4]) := by kernel_rfl
theorem n150 : Tryz.f150.ntmps = 8 := by kernel_rfl
def c119 : AC := .seq (.ops [⟨some 4,none,.mv (.const (.int .i64 0))⟩]) (.seq (.ops [⟨some 14,none,.mv (.tmp 1)⟩,⟨some 15,none,.lenS true (.tmp 14)⟩,⟨some 5,none,.mv (.tmp 15)⟩]) (.seq (.block 0 (.seq (.ops [⟨some 17,none,.mv (.tmp 5)⟩,⟨some 18,none,.bin .eql (.tmp 17) (.const (.int .i64 0))⟩,⟨some 19,none,.mv (.tmp 18)⟩,⟨some 20,some (19,false),.mv (.tmp 1)⟩,⟨some 21,some (19,false),.mv (.tmp 0)⟩,⟨some 22,some (19,false),.bin .eql (.tmp 20) (.tmp 21)⟩,⟨some 23,none,.pick (.tmp 19) (.const (.bool true)) (.tmp 22)⟩,⟨some 16,none,.mv (.tmp 23)⟩]) (.cond (.tmp 16) (.seq (.ops [⟨some 4,none,.mv (.const (.int .i64 0))⟩]) .ret) (.seq (.ops [⟨some 25,none,.mv (.tmp 5)⟩,⟨some 26,none,.bin .eql (.tmp 25) (.const (.int .i64 1))⟩,⟨some 24,none,.mv (.tmp 26)⟩]) (.cond (.tmp 24) (.seq (.ops [⟨some 27,none,.mv (.tmp 0)⟩,⟨some 28,none,.mv (.tmp 1)⟩,⟨some 29,none,.iStr (.tmp 28) (.const (.int .i64 0))⟩,⟨some 30,none,.call 150 [.tmp 27,.tmp 29]⟩,⟨some 4,none,.mv (.tmp 30)⟩]) .ret) (.seq (.ops [⟨some 32,none,.mv (.tmp 5)⟩,⟨some 33,none,.mv (.tmp 0)⟩,⟨some 34,none,.lenS true (.tmp 33)⟩,⟨some 35,none,.bin .geq (.tmp 32) (.tmp 34)⟩,⟨some 31,none,.mv (.tmp 35)⟩]) (.cond (.tmp 31) (.seq (.ops [⟨some 4,none,.mv (.const (.int .i64 (-1)))⟩]) .ret) (.seq (.ops [⟨some 37,none,.mv (.tmp 5)⟩,⟨some 38,none,.load none (.global 2)⟩,⟨some 39,none,.bin .leq (.tmp 37) (.tmp 38)⟩,⟨some 40,none,.mv (.tmp 39)⟩,⟨some 41,some (40,true),.mv (.tmp 0)⟩,⟨some 42,some (40,true),.lenS true (.tmp 41)⟩,⟨some 43,some (40,true),.bin .leq (.tmp 42) (.const (.int .i64 64))⟩,⟨some 44,none,.pick (.tmp 40) (.tmp 43) (.const (.bool false))⟩,⟨some 36,none,.mv (.tmp 44)⟩]) (.cond (.tmp 36) (.seq (.ops [⟨some 45,none,.mv (.tmp 0)⟩,⟨some 46,none,.mv (.tmp 1)⟩,⟨some 47,none,.bad⟩,⟨some 4,none,.mv (.tmp 47)⟩]) .ret) .skip))))))))) (.seq (.ops [⟨some 48,none,.mv (.tmp 1)⟩,⟨some 49,none,.iStr (.tmp 48) (.const (.int .i64 0))⟩,⟨some 6,none,.mv (.tmp 49)⟩]) (.seq (.ops [⟨some 50,none,.mv (.tmp 1)⟩,⟨some 51,none,.iStr (.tmp 50) (.const (.int .i64 1))⟩,⟨some 7,none,.mv (.tmp 51)⟩]) (.seq (.ops [⟨some 8,none,.mv (.const (.int .i64 0))⟩]) (.seq (.ops [⟨some 52,none,.mv (.tmp 0)⟩,⟨some 53,none,.lenS true (.tmp 52)⟩,⟨some 54,none,.mv (.tmp 5)⟩,⟨some 55,none,.bin .sub (.tmp 53) (.tmp 54)⟩,⟨some 56,none,.bin .add (.tmp 55) (.const (.int .i64 1))⟩,⟨some 9,none,.mv (.tmp 56)⟩]) (.seq (.ops [⟨some 10,none,.mv (.const (.int .i64 0))⟩]) (.seq (.block 1 (.loop (.seq (.seq (.ops [⟨some 57,none,.mv (.tmp 8)⟩,⟨some 58,none,.mv (.tmp 9)⟩,⟨some 59,none,.bin .lss (.tmp 57) (.tmp 58)⟩]) (.cond (.tmp 59) .skip (.exit 1))) (.block 2 (.seq (.seq (.ops [⟨some 60,none,.mv (.tmp 0)⟩,⟨some 61,none,.mv (.tmp 8)⟩,⟨some 62,none,.iStr (.tmp 60) (.tmp 61)⟩,⟨some 63,none,.mv (.tmp 6)⟩,⟨some 64,none,.bin .neq (.tmp 62) (.tmp 63)⟩]) (.cond (.tmp 64) (.seq (.ops [⟨some 65,none,.mv (.tmp 0)⟩,⟨some 66,none,.mv (.tmp 8)⟩,⟨some 67,none,.bin .add (.tmp 66) (.const (.int .i64 1))⟩,⟨some 68,none,.mv (.tmp 9)⟩,⟨some 69,none,.slS (.tmp 65) (some (.tmp 67)) (some (.tmp 68))⟩,⟨some 70,none,.mv (.tmp 6)⟩,⟨some 71,none,.call 150 [.tmp 69,.tmp 70]⟩,⟨some 11,none,.mv (.tmp 71)⟩]) (.seq (.seq (.ops [⟨some 72,none,.mv (.tmp 11)⟩,⟨some 73,none,.bin .lss (.tmp 72) (.const (.int .i64 0))⟩]) (.cond (.tmp 73) (.seq (.ops [⟨some 4,none,.mv (.const (.int .i64 (-1)))⟩]) .ret) .skip)) (.ops [⟨some 74,none,.mv (.tmp 8)⟩,⟨some 75,none,.mv (.tmp 11)⟩,⟨some 76,none,.bin .add (.tmp 75) (.const (.int .i64 1))⟩,⟨some 77,none,.bin .add (.tmp 74) (.tmp 76)⟩,⟨some 8,none,.mv (.tmp 77)⟩]))) .skip)) (.seq (.seq (.ops [⟨some 78,none,.mv (.tmp 0)⟩,⟨some 79,none,.mv (.tmp 8)⟩,⟨some 80,none,.bin .add (.tmp 79) (.const (.int .i64 1))⟩,⟨some 81,none,.iStr (.tmp 78) (.tmp 80)⟩,⟨some 82,none,.mv (.tmp 7)⟩,⟨some 83,none,.bin .eql (.tmp 81) (.tmp 82)⟩,⟨some 84,none,.mv (.tmp 83)⟩,⟨some 85,some (84,true),.mv (.tmp 0)⟩,⟨some 86,some (84,true),.mv (.tmp 8)⟩,⟨some 87,some (84,true),.mv (.tmp 8)⟩,⟨some 88,some (84,true),.mv (.tmp 5)⟩,⟨some 89,some (84,true),.bin .add (.tmp 87) (.tmp 88)⟩,⟨some 90,some (84,true),.slS (.tmp 85) (some (.tmp 86)) (some (.tmp 89))⟩,⟨some 91,some (84,true),.mv (.tmp 1)⟩,⟨some 92,some (84,true),.bin .eql (.tmp 90) (.tmp 91)⟩,⟨some 93,none,.pick (.tmp 84) (.tmp 92) (.const (.bool false))⟩]) (.cond (.tmp 93) (.seq (.ops [⟨some 94,none,.mv (.tmp 8)⟩,⟨some 4,none,.mv (.tmp 94)⟩]) .ret) .skip)) (.seq (.ops [⟨some 95,none,.mv (.tmp 8)⟩,⟨some 96,none,.bin .add (.tmp 95) (.const (.int .i64 1))⟩,⟨some 8,none,.mv (.tmp 96)⟩]) (.seq (.ops [⟨some 97,none,.mv (.tmp 10)⟩,⟨some 98,none,.bin .add (.tmp 97) (.const (.int .i64 1))⟩,⟨some 10,none,.mv (.tmp 98)⟩]) (.seq (.ops [⟨some 99,none,.mv (.tmp 5)⟩,⟨some 100,none,.load none (.global 2)⟩,⟨some 101,none,.bin .leq (.tmp 99) (.tmp 100)⟩,⟨some 102,none,.mv (.tmp 101)⟩,⟨some 103,some (102,true),.mv (.tmp 10)⟩,⟨some 104,some (102,true),.mv (.tmp 8)⟩,⟨some 105,some (102,true),.call 152 [.tmp 104]⟩,⟨some 106,some (102,true),.bin .gtr (.tmp 103) (.tmp 105)⟩,⟨some 107,none,.pick (.tmp 102) (.tmp 106) (.const (.bool false))⟩]) (.cond (.tmp 107) (.seq (.ops [⟨some 108,none,.mv (.tmp 0)⟩,⟨some 109,none,.mv (.tmp 8)⟩,⟨some 110,none,.slS (.tmp 108) (some (.tmp 109)) none⟩,⟨some 111,none,.mv (.tmp 1)⟩,⟨some 112,none,.bad⟩,⟨some 12,none,.mv (.tmp 112)⟩]) (.seq (.seq (.ops [⟨some 113,none,.mv (.tmp 12)⟩,⟨some 114,none,.bin .geq (.tmp 113) (.const (.int .i64 0))⟩]) (.cond (.tmp 114) (.seq (.ops [⟨some 115,none,.mv (.tmp 12)⟩,⟨some 116,none,.mv (.tmp 8)⟩,⟨some 117,none,.bin .add (.tmp 115) (.tmp 116)⟩,⟨some 4,none,.mv (.tmp 117)⟩]) .ret) .skip)) (.seq (.ops [⟨some 4,none,.mv (.const (.int .i64 (-1)))⟩]) .ret))) (.seq (.ops [⟨some 118,none,.mv (.tmp 5)⟩,⟨some 119,none,.load none (.global 2)⟩,⟨some 120,none,.bin .gtr (.tmp 118) (.tmp 119)⟩,⟨some 121,none,.mv (.tmp 120)⟩,⟨some 122,some (121,true),.mv (.tmp 10)⟩,⟨some 123,some (121,true),.mv (.tmp 8)⟩,⟨some 124,some (121,true),.bin .shr (.tmp 123) (.const (.int .u64 4))⟩,⟨some 125,some (121,true),.bin .add (.const (.int .i64 4)) (.tmp 124)⟩,⟨some 126,some (121,true),.bin .geq (.tmp 122) (.tmp 125)⟩,⟨some 127,none,.pick (.tmp 121) (.tmp 126) (.const (.bool false))⟩,⟨some 128,none,.mv (.tmp 127)⟩,⟨some 129,some (128,true),.mv (.tmp 8)⟩,⟨some 130,some (128,true),.mv (.tmp 9)⟩,⟨some 131,some (128,true),.bin .lss (.tmp 129) (.tmp 130)⟩,⟨some 132,none,.pick (.tmp 128) (.tmp 131) (.const (.bool false))⟩]) (.cond (.tmp 132) (.seq (.ops [⟨some 133,none,.mv (.tmp 0)⟩,⟨some 134,none,.mv (.tmp 8)⟩,⟨some 135,none,.slS (.tmp 133) (some (.tmp 134)) none⟩,⟨some 136,none,.mv (.tmp 1)⟩,⟨some 137,none,.call 153 [.tmp 135,.tmp 136]⟩,⟨some 13,none,.mv (.tmp 137)⟩]) (.seq (.seq (.ops [⟨some 138,none,.mv (.tmp 13)⟩,⟨some 139,none,.bin .lss (.tmp 138) (.const (.int .i64 0))⟩]) (.cond (.tmp 139) (.seq (.ops [⟨some 4,none,.mv (.const (.int .i64 (-1)))⟩]) .ret) .skip)) (.seq (.ops [⟨some 140,none,.mv (.tmp 8)⟩,⟨some 141,none,.mv (.tmp 13)⟩,⟨some 142,none,.bin .add (.tmp 140) (.tmp 141)⟩,⟨some 4,none,.mv (.tmp 142)⟩]) .ret))) .skip)))))))))))) (.seq (.ops [⟨some 4,none,.mv (.const (.int .i64 (-1)))⟩]) .ret)))))))))
theorem k119 : compF Tryz.prog Tryz.f119 = some (c119, [4]) := by kernel_rfl
theorem n119 : Tryz.f119.ntmps = 143 := by kernel_rfl
def c118 : AC := .seq (.ops [⟨some 4,none,.mv (.const (.int .i64 0))⟩]) (.seq (.ops [⟨some 5,none,.mv (.tmp 0)⟩,⟨some 6,none,.mv (.tmp 1)⟩,⟨some 7,none,.call 119 [.tmp 5,.tmp 6]⟩,⟨some 4,none,.mv (.tmp 7)⟩]) .ret)
theorem k118 : compF Tryz.prog Tryz.f118 = some (c118, [4]) := by kernel_rfl
theorem n118 : Tryz.f118.ntmps = 8 := by kernel_rfl
def c117 : AC := .seq (.ops [⟨some 4,none,.mv (.const (.int .i64 0))⟩]) (.seq (.seq (.ops [⟨some 7,none,.mv (.tmp 1)⟩,⟨some 8,none,.lenS true (.tmp 7)⟩,⟨some 9,none,.bin .eql (.tmp 8) (.const (.int .i64 0))⟩]) (.cond (.tmp 9) (.seq (.ops [⟨some 10,none,.mv (.tmp 0)⟩,⟨some 11,none,.call 147 [.tmp 10]⟩,⟨some 12,none,.bin .add (.tmp 11) (.const (.int .i64 1))⟩,⟨some 4,none,.mv (.tmp 12)⟩]) .ret) .skip)) (.seq (.seq (.ops [⟨some 13,none,.mv (.tmp 1)⟩,⟨some 14,none,.lenS true (.tmp 13)⟩,⟨some 15,none,.bin .eql (.tmp 14) (.const (.int .i64 1))⟩]) (.cond (.tmp 15) (.seq (.ops [⟨some 16,none,.mv (.tmp 0)⟩,⟨some 17,none,.mv (.tmp 1)⟩,⟨some 18,none,.iStr (.tmp 17) (.const (.int .i64 0))⟩,⟨some 19,none,.cntB (.tmp 16) (.tmp 18)⟩,⟨some 4,none,.mv (.tmp 19)⟩]) .ret) .skip)) (.seq (.ops [⟨some 5,none,.mv (.const (.int .i64 0))⟩]) (.block 0 (.loop (.block 1 (.seq (.ops [⟨some 20,none,.mv (.tmp 0)⟩,⟨some 21,none,.mv (.tmp 1)⟩,⟨some 22,none,.call 118 [.tmp 20,.tmp 21]⟩,⟨some 6,none,.mv (.tmp 22)⟩]) (.seq (.seq (.ops [⟨some 23,none,.mv (.tmp 6)⟩,⟨some 24,none,.bin .eql (.tmp 23) (.const (.int .i64 (-1)))⟩]) (.cond (.tmp 24) (.seq (.ops [⟨some 25,none,.mv (.tmp 5)⟩,⟨some 4,none,.mv (.tmp 25)⟩]) .ret) .skip)) (.seq (.ops [⟨some 26,none,.mv (.tmp 5)⟩,⟨some 27,none,.bin .add (.tmp 26) (.const (.int .i64 1))⟩,⟨some 5,none,.mv (.tmp 27)⟩]) (.ops [⟨some 28,none,.mv (.tmp 0)⟩,⟨some 29,none,.mv (.tmp 6)⟩,⟨some 30,none,.mv (.tmp 1)⟩,⟨some 31,none,.lenS true (.tmp 30)⟩,⟨some 32,none,.bin .add (.tmp 29) (.tmp 31)⟩,⟨some 33,none,.slS (.tmp 28) (some (.tmp 32)) none⟩,⟨some 0,none,.mv (.tmp 33)⟩]))))))))))
theorem k117 : compF Tryz.prog Tryz.f117 = some (c117, [4]) := by kernel_rfl
theorem n117 : Tryz.f117.ntmps = 34 := by kernel_rfl
def consH (x : UInt8) : List (List UInt8) → List (List UInt8)
  | [] => [[x]]
  | h :: t => (x :: h) :: t
def splitB (c : UInt8) : List UInt8 → List (List UInt8)
  | [] => [[]]
  | x :: r => if x = c then [] :: splitB c r else consH x (splitB c r)
theorem split_none {c : UInt8} : ∀ {l : List UInt8}, c ∉ l → splitB c l = [l]
  | [], _ => rfl
  | x :: r, h => by
    have hx : ¬ x = c := fun e => h (by simp [e])
    rw [splitB, if_neg hx, split_none (fun q => h (List.mem_cons_of_mem _ q))]
    rfl
theorem split_at {c : UInt8} : ∀ {a b : List UInt8}, c ∉ a → splitB c (a ++ c :: b) = a :: splitB c b
  | [], b, _ => by simp [splitB]
  | x :: r, b, h => by
    have hx : ¬ x = c := fun e => h (by simp [e])
    rw [List.cons_append, splitB, if_neg hx, split_at (fun q => h (List.mem_cons_of_mem _ q))]
    rfl
theorem consH_len (x : UInt8) {l : List (List UInt8)} (h : l ≠ []) : (consH x l).length = l.length := by
  cases l with
  | nil => exact absurd rfl h
  | cons a b => rfl
theorem split_ne (c : UInt8) (l : List UInt8) : splitB c l ≠ [] := by
  cases l with
  | nil => simp [splitB]
  | cons x r =>
    unfold splitB
    split
    · simp
    · cases splitB c r <;> simp [consH]
theorem split_len (c : UInt8) : ∀ l : List UInt8, (splitB c l).length = l.count c + 1
  | [] => rfl
  | x :: r => by
    have ih := split_len c r
    unfold splitB
    split
    · rename_i h
      subst h
      rw [List.length_cons, ih, List.count_cons_self]
    · rename_i h
      rw [consH_len _ (split_ne c r), ih, List.count_cons_of_ne h]
def idx1 (c : UInt8) : List UInt8 → Option Nat
  | [] => none
  | x :: r => if x = c then some 0 else (idx1 c r).map (· + 1)
theorem idx1_none {c : UInt8} : ∀ {l : List UInt8}, idx1 c l = none → c ∉ l
  | [], _ => by simp
  | x :: r, h => by
    unfold idx1 at h
    split at h
    · cases h
    · rename_i hx
      have := idx1_none (l := r) (by simpa using h)
      simp only [List.mem_cons, not_or]
      exact ⟨fun e => hx e.symm, this⟩
theorem idx1_some {c : UInt8} : ∀ {l : List UInt8} {i : Nat}, idx1 c l = some i → ∃ a b, l = a ++ c :: b ∧ c ∉ a ∧ a.length = i
  | [], _, h => by cases h
  | x :: r, i, h => by
    unfold idx1 at h
    split at h
    · rename_i hx
      cases h
      exact ⟨[], r, by simp [hx], by simp, rfl⟩
    · rename_i hx
      obtain ⟨j, hj, rfl⟩ := Option.map_eq_some_iff.1 h
      obtain ⟨a, b, h1, h2, h3⟩ := idx1_some hj
      exact ⟨x :: a, b, by simp [h1], by simp only [List.mem_cons, not_or]; exact ⟨fun e => hx e.symm, h2⟩, by simp [h3]⟩
theorem firstIdx_bs (l : List UInt8) (c : UInt8) : firstIdx (bs l) c = (match idx1 c l with | some i => (i : Int) | none => -1) := by
  have key : ∀ (p l : List UInt8), ((List.range' p.length l.length).find? fun i => (bs (p ++ l))[i]! == c) = (idx1 c l).map (· + p.length) := by
    intro p l
    induction l generalizing p with
    | nil => rfl
    | cons x r ih =>
      have e1 : (bs (p ++ x :: r))[p.length]! = x := by
        have hlt : p.length < (bs (p ++ x :: r)).size := by rw [bs_size]; simp
        rw [getElem!_pos (bs (p ++ x :: r)) p.length hlt]
        have hd := bs_data (p ++ x :: r)
        have e3 : (bs (p ++ x :: r))[p.length] = (bs (p ++ x :: r)).data.toList[p.length]'(by rw [hd]; simp) := rfl
        rw [e3]
        simp only [hd]
        simp
      have e2 := ih (p ++ [x])
      rw [List.append_assoc, List.singleton_append, List.length_append, List.length_singleton] at e2
      rw [List.length_cons, List.range'_succ, List.find?_cons, e1, e2, idx1]
      by_cases hx : x = c
      · simp [hx]
      · have : (x == c) = false := by simpa using hx
        rw [this, if_neg hx]
        cases idx1 c r with
        | none => rfl
        | some j => simp; omega
  unfold firstIdx
  have := key [] l
  simp only [List.length_nil, List.nil_append] at this
  rw [bs_size, List.range_eq_range', this]
  cases idx1 c l <;> rfl
theorem iby_ok (l : List UInt8) (c : UInt8) (h : Heap) : ACalls Tryz.prog 150 [.string (bs l), .int .u8 (c.toNat : Int)] h fun v h' => v = .int .i64 (match idx1 c l with | some i => (i : Int) | none => -1) ∧ h' = h := by
  refine acalls_of mix Tryz.func150 k150 n150 (by simp) fun hcl hb => ?_
  have := firstIdx_bs l c
  simp [c150, this]
theorem index1_ok (l : List UInt8) (c : UInt8) (h : Heap) (hl : l.length ≤ 1000000) : ACalls Tryz.prog 118 [.string (bs l), .string (bs [c])] h fun v h' => v = .int .i64 (match idx1 c l with | some i => (i : Int) | none => -1) ∧ h' = h := by
  refine acalls_of mix Tryz.func118 k118 n118 (by simp) fun hcl hb => ?_
  simp [c118]
  refine ACalls.mono (R := fun v h' => v = .int .i64 (match idx1 c l with | some i => (i : Int) | none => -1) ∧ h' = h) ?_ ?_
  · refine acalls_of mix Tryz.func119 k119 n119 (by simp) fun hcl hb => ?_
    have hs1 : (bs [c]).size = 1 := rfl
    have hd1 : (bs [c]).data.toList = [c] := rfl
    have h0 : aidx (.int .i64 0) 1 = some 0 := rfl
    by_cases heq : bs [c] = bs l
    · have : l = [c] := (bs_inj.1 heq).symm
      subst this
      simp [c119, hs1, hd1, h0, idx1]
    · simp [c119, hs1, hd1, h0, heq]
      exact (iby_ok l c h).mono fun v h' q => by
        obtain ⟨rfl, rfl⟩ := q
        simp
  · rintro v h' ⟨rfl, rfl⟩
    simp
theorem count1_ok (l : List UInt8) (c : UInt8) (h : Heap) : ACalls Tryz.prog 117 [.string (bs l), .string (bs [c])] h fun v h' => v = .int .i64 (l.count c : Nat) ∧ h' = h := by
  refine acalls_of mix Tryz.func117 k117 n117 (by simp) fun hcl hb => ?_
  have hs1 : (bs [c]).size = 1 := rfl
  have hd1 : (bs [c]).data.toList = [c] := rfl
  have h0 : aidx (.int .i64 0) 1 = some 0 := rfl
  simp [c117, hs1, hd1, h0, bs_data, Lib.countByte]

def c85_0 : AC := .seq (.seq (.ops [⟨some 34,none,.mv (.tmp 10)⟩,⟨some 35,none,.mv (.tmp 3)⟩,⟨some 36,none,.bin .lss (.tmp 34) (.tmp 35)⟩]) (.cond (.tmp 36) .skip (.exit 0))) (.block 1 (.seq (.ops [⟨some 37,none,.mv (.tmp 0)⟩,⟨some 38,none,.mv (.tmp 1)⟩,⟨some 39,none,.call 118 [.tmp 37,.tmp 38]⟩,⟨some 11,none,.mv (.tmp 39)⟩]) (.seq (.seq (.ops [⟨some 40,none,.mv (.tmp 11)⟩,⟨some 41,none,.bin .lss (.tmp 40) (.const (.int .i64 0))⟩]) (.cond (.tmp 41) (.exit 0) .skip)) (.seq (.ops [⟨some 42,none,.mv (.tmp 9)⟩,⟨some 43,none,.mv (.tmp 10)⟩,⟨some 44,none,.mv (.tmp 0)⟩,⟨some 45,none,.mv (.tmp 11)⟩,⟨some 46,none,.mv (.tmp 2)⟩,⟨some 47,none,.bin .add (.tmp 45) (.tmp 46)⟩,⟨some 48,none,.slS (.tmp 44) none (some (.tmp 47))⟩,⟨some 49,none,.iAddrS 1 (.tmp 42) (.tmp 43)⟩,⟨none,none,.store 1 (.tmp 49) (.tmp 48)⟩]) (.seq (.ops [⟨some 50,none,.mv (.tmp 0)⟩,⟨some 51,none,.mv (.tmp 11)⟩,⟨some 52,none,.mv (.tmp 1)⟩,⟨some 53,none,.lenS true (.tmp 52)⟩,⟨some 54,none,.bin .add (.tmp 51) (.tmp 53)⟩,⟨some 55,none,.slS (.tmp 50) (some (.tmp 54)) none⟩,⟨some 0,none,.mv (.tmp 55)⟩]) (.ops [⟨some 56,none,.mv (.tmp 10)⟩,⟨some 57,none,.bin .add (.tmp 56) (.const (.int .i64 1))⟩,⟨some 10,none,.mv (.tmp 57)⟩]))))))
def c85 : AC := .seq (.ops [⟨some 8,none,.mv (.const (.slice none 0 0))⟩]) (.seq (.seq (.ops [⟨some 12,none,.mv (.tmp 3)⟩,⟨some 13,none,.bin .eql (.tmp 12) (.const (.int .i64 0))⟩]) (.cond (.tmp 13) (.seq (.ops [⟨some 8,none,.mv (.const (.slice none 0 0))⟩]) .ret) .skip)) (.seq (.seq (.ops [⟨some 14,none,.mv (.tmp 1)⟩,⟨some 15,none,.bin .eql (.tmp 14) (.const (.string ⟨⟨[]⟩⟩))⟩]) (.cond (.tmp 15) (.seq (.ops [⟨some 16,none,.mv (.tmp 0)⟩,⟨some 17,none,.mv (.tmp 3)⟩,⟨some 18,none,.call 116 [.tmp 16,.tmp 17]⟩,⟨some 8,none,.mv (.tmp 18)⟩]) .ret) .skip)) (.seq (.seq (.ops [⟨some 19,none,.mv (.tmp 3)⟩,⟨some 20,none,.bin .lss (.tmp 19) (.const (.int .i64 0))⟩]) (.cond (.tmp 20) (.ops [⟨some 21,none,.mv (.tmp 0)⟩,⟨some 22,none,.mv (.tmp 1)⟩,⟨some 23,none,.call 117 [.tmp 21,.tmp 22]⟩,⟨some 24,none,.bin .add (.tmp 23) (.const (.int .i64 1))⟩,⟨some 3,none,.mv (.tmp 24)⟩]) .skip)) (.seq (.ops [⟨some 25,none,.mv (.tmp 3)⟩,⟨some 26,none,.mv (.tmp 0)⟩,⟨some 27,none,.lenS true (.tmp 26)⟩,⟨some 28,none,.bin .add (.tmp 27) (.const (.int .i64 1))⟩,⟨some 29,none,.mn [.tmp 25,.tmp 28]⟩,⟨some 3,none,.mv (.tmp 29)⟩]) (.seq (.ops [⟨some 30,none,.mv (.tmp 3)⟩,⟨some 31,none,.mkSl [.string ⟨⟨[]⟩⟩] 16 (.tmp 30) (.tmp 30)⟩,⟨some 9,none,.mv (.tmp 31)⟩]) (.seq (.ops [⟨some 32,none,.mv (.tmp 3)⟩,⟨some 33,none,.bin .sub (.tmp 32) (.const (.int .i64 1))⟩,⟨some 3,none,.mv (.tmp 33)⟩]) (.seq (.ops [⟨some 10,none,.mv (.const (.int .i64 0))⟩]) (.seq (.block 0 (.loop c85_0)) (.seq (.ops [⟨some 58,none,.mv (.tmp 9)⟩,⟨some 59,none,.mv (.tmp 10)⟩,⟨some 60,none,.mv (.tmp 0)⟩,⟨some 61,none,.iAddrS 1 (.tmp 58) (.tmp 59)⟩,⟨none,none,.store 1 (.tmp 61) (.tmp 60)⟩]) (.seq (.ops [⟨some 62,none,.mv (.tmp 9)⟩,⟨some 63,none,.mv (.tmp 10)⟩,⟨some 64,none,.bin .add (.tmp 63) (.const (.int .i64 1))⟩,⟨some 65,none,.slV 1 (.tmp 62) none (some (.tmp 64)) none⟩,⟨some 8,none,.mv (.tmp 65)⟩]) .ret))))))))))
theorem k85 : compF Tryz.prog Tryz.f85 = some (c85, [8]) := by kernel_rfl
theorem n85 : Tryz.f85.ntmps = 66 := by kernel_rfl
def c48 : AC := .seq (.ops [⟨some 4,none,.mv (.const (.slice none 0 0))⟩]) (.seq (.ops [⟨some 5,none,.mv (.tmp 0)⟩,⟨some 6,none,.mv (.tmp 1)⟩,⟨some 7,none,.call 85 [.tmp 5,.tmp 6,.const (.int .i64 0),.const (.int .i64 (-1))]⟩,⟨some 4,none,.mv (.tmp 7)⟩]) .ret)
theorem k48 : compF Tryz.prog Tryz.f48 = some (c48, [4]) := by kernel_rfl
theorem n48 : Tryz.f48.ntmps = 8 := by kernel_rfl
theorem split_cnt {c : UInt8} {l r : List UInt8} {L : List (List UInt8)} (h : L ++ splitB c r = splitB c l) : L.length + r.count c = l.count c := by
  have := congrArg List.length h
  rw [List.length_append, split_len, split_len] at this
  omega
theorem idx1_of_count {c : UInt8} {r : List UInt8} (h : 0 < r.count c) : ∃ i, idx1 c r = some i := by
  cases hx : idx1 c r with
  | some i => exact ⟨i, rfl⟩
  | none => have := idx1_none hx; rw [List.count_eq_zero.2 this] at h; omega
theorem put_nth (A : List Value) (v w : Value) (B : List Value) : aput (A ++ w :: B) A.length [v] = A ++ v :: B := by
  unfold aput
  simp
structure GS where
  L : List (List UInt8)
  r : List UInt8
theorem genSplit_ok (l : List UInt8) (c : UInt8) (h : Heap) (hl : l.length ≤ 1000000) :
    ACalls Tryz.prog 85 [.string (bs l), .string (bs [c]), .int .i64 0, .int .i64 (-1)] h fun v h' => v = .slice (some ⟨h.n, 0, none⟩) (l.count c + 1) (l.count c + 1) ∧ h' = h.push (.cells ((splitB c l).map sv) .ex 1) := by
  refine acalls_of mix Tryz.func85 k85 n85 (by simp) fun hcl hb => ?_
  have hne : ¬ bs [c] = bs [] := fun q => by have := bs_inj.1 q; cases this
  have hcn : l.count c ≤ l.length := List.count_le_length
  generalize hN : l.count c = N at *
  have e1 : IntKind.i64.wrap ((N : Int) + 1) = ((N + 1 : Nat) : Int) := w1 N (by omega)
  have e2 : IntKind.i64.wrap ((l.length : Int) + 1) = ((l.length + 1 : Nat) : Int) := w1 _ (by omega)
  have e3 : IntKind.i64.wrap (((N + 1 : Nat) : Int) - 1) = (N : Int) := by rw [IntWalk.i64_in _ (by omega)]; omega
  have hmin : min ((N + 1 : Nat) : Int) ((l.length + 1 : Nat) : Int) = ((N + 1 : Nat) : Int) := by omega
  simp [c85, bs_lit, hne]
  refine (count1_ok l c h).mono ?_
  rintro _ h9 ⟨rfl, e⟩
  rw [e]; clear e h9
  have hsm : ((N + 1 : Nat) : Int) * 17 ≤ 1099511627776 := by omega
  have hsm' : ((N : Int) + 1) * 17 ≤ 1099511627776 := by omega
  have h1n : (0 : Int) ≤ (N : Int) + 1 := by omega
  have htn : ((N : Int) + 1).toNat = N + 1 := by omega
  simp [hN, e1, e2, e3, hmin, bs_size, afold, amin2, hsm, hsm', h1n, htn, -Int.natCast_add]
  have hsvb : ∀ (A : List (List UInt8)) (k n : Nat), ∀ x ∈ A.map sv ++ List.replicate k (sv []), VBelow n x := fun A k n x hx => by
    rcases List.mem_append.1 hx with hx | hx
    · obtain ⟨y, _, rfl⟩ := List.mem_map.1 hx; exact .string
    · rw [List.eq_of_mem_replicate hx]; exact .string
  have hcl2 : ∀ (A : List (List UInt8)) k, (h.push (.cells (A.map sv ++ List.replicate k (sv [])) .ex 1)).Closed := fun A k => closed_push hcl (hsvb A k _)
  refine awp_loop_of (α := GS) (fun z => z.L ++ splitB c z.r = splitB c l ∧ z.r.length ≤ l.length)
    (fun z => [(0, .string (bs z.r)), (1, .string (bs [c])), (2, .int .i64 0), (3, .int .i64 N), (9, .slice (some ⟨h.n, 0, none⟩) (N + 1) (N + 1)), (10, .int .i64 z.L.length)])
    (fun z => h.push (.cells (z.L.map sv ++ List.replicate (N + 1 - z.L.length) (sv [])) .ex 1)) (fun z => z.r.length) ⟨[], l⟩
    ⟨rfl, Nat.le_refl _⟩ ⟨Nat.le_succ _, Nat.le_refl _, fun b o e => e, hcl2 _ _⟩ (by simp; exact ⟨.string, .string, .int, .int, vb_slice (Nat.lt_succ_self _), .int⟩) ?_
  rintro ⟨L, r⟩ ⟨hI, hr⟩
  dsimp only at hI hr ⊢
  have hct := split_cnt hI
  rw [hN] at hct
  have hfc := cellsOf_new h (L.map sv ++ List.replicate (N + 1 - L.length) (sv [])) .ex 1
  have hrep : List.replicate (N + 1 - L.length) (sv []) = sv [] :: List.replicate (N - L.length) (sv []) := by
    rw [show N + 1 - L.length = (N - L.length) + 1 by omega, List.replicate_succ]
  rw [hrep] at hfc
  have hput : ∀ v, aput (L.map sv ++ sv [] :: List.replicate (N - L.length) (sv [])) L.length [v] = L.map sv ++ v :: List.replicate (N - L.length) (sv []) := fun v => by
    have := put_nth (L.map sv) v (sv []) (List.replicate (N - L.length) (sv []))
    rwa [List.length_map] at this
  have hlt : aidx (.int .i64 (L.length : Int)) (N + 1) = some L.length := aidx_of (by omega)
  have hle : L.length + 1 ≤ (L.map sv ++ sv [] :: List.replicate (N - L.length) (sv [])).length := by simp
  have hle' : L.length + 1 ≤ L.length + (N - L.length + 1) := by omega
  by_cases hlo : L.length < N
  · have hlo' : (L.length : Int) < N := by omega
    obtain ⟨m, hm⟩ := idx1_of_count (c := c) (r := r) (by omega)
    obtain ⟨a, b, rfl, hca, rfl⟩ := idx1_some hm
    have hspl := split_at (b := b) hca
    have hlen : (a ++ c :: b).length = a.length + (b.length + 1) := by simp
    simp [c85_0, hlo']
    refine (index1_ok (a ++ c :: b) c _ (by omega)).mono ?_
    rintro _ h9 ⟨rfl, e⟩
    rw [e]; clear e h9
    rw [hm]
    have hn0 : ¬ (a.length : Int) < 0 := by omega
    have q1 : IntKind.i64.wrap (a.length : Int) = (a.length : Int) := i64w _ (by omega)
    have q2 : IntKind.i64.wrap ((a.length : Int) + 1) = ((a.length + 1 : Nat) : Int) := w1 _ (by omega)
    have q3 : IntKind.i64.wrap ((L.length : Int) + 1) = ((L.length + 1 : Nat) : Int) := w1 _ (by omega)
    have b1 : abounds (bs (a ++ c :: b)).size (bs (a ++ c :: b)).size none (some (.int .i64 (a.length : Int))) none = some (0, a.length, (bs (a ++ c :: b)).size) := abounds_hi (by rw [bs_size]; omega)
    have b2 : abounds (bs (a ++ c :: b)).size (bs (a ++ c :: b)).size (some (.int .i64 ((a.length + 1 : Nat) : Int))) none none = some (a.length + 1, (bs (a ++ c :: b)).size, (bs (a ++ c :: b)).size) := abounds_lo (by rw [bs_size]; omega) (Nat.le_refl _)
    have x1 : (bs (a ++ c :: b)).extract 0 a.length = bs a := by rw [bs_extract]; simp
    have x2 : (bs (a ++ c :: b)).extract (a.length + 1) (bs (a ++ c :: b)).size = bs b := by
      rw [bs_extract, bs_size, List.take_of_length_le (Nat.le_refl _), ← List.drop_drop]
      simp
    have hs1 : (bs [c]).size = 1 := rfl
    simp [hn0, q1, q2, q3, b1, b2, x1, x2, hs1, hlt, hrep, hfc, mcells, hput, hle', set_push, -Int.natCast_add]
    refine ⟨⟨L ++ [a], b⟩, by show b.length < a.length + (b.length + 1); omega, ⟨by show (L ++ [a]) ++ splitB c b = _; rw [← hI, hspl]; simp, by show b.length ≤ l.length; omega⟩, ⟨Nat.le_succ _, Nat.le_refl _, fun y o e => ?_, hcl2 _ _⟩, ?_⟩
    · have : N + 1 - (L ++ [a]).length = N - L.length := by simp
      rw [this] at e
      simpa [sv] using e
    · simp
      exact ⟨.string, .string, .int, .int, vb_slice (Nat.lt_succ_self _), .int⟩
  · have hNe : N = L.length := by omega
    have hlo' : ¬ (L.length : Int) < N := by omega
    have hr0 : c ∉ r := List.count_eq_zero.1 (by omega)
    have hsp := split_none hr0
    have q3 : IntKind.i64.wrap ((L.length : Int) + 1) = ((L.length + 1 : Nat) : Int) := w1 _ (by omega)
    have b1 : abounds (N + 1) (N + 1) none (some (.int .i64 ((L.length + 1 : Nat) : Int))) none = some (0, L.length + 1, N + 1) := abounds_hi (by omega)
    have hfin : L.map sv ++ [sv r] = (splitB c l).map sv := by rw [← hI, hsp]; simp
    have hz : N - L.length = 0 := by omega
    rw [hz] at hput hfc hrep
    rw [List.replicate_zero] at hput hfc hrep
    have hp2 := hput (.string (bs r))
    simp [c85_0, hlo', hlt, hrep, hfc, mcells, hp2, set_push, q3, b1, cellsOf_new, BMode.isLoose, -Int.natCast_add]
    have : L.map sv ++ [Value.string (bs r)] = (splitB c l).map sv := hfin
    rw [this]
    exact ⟨by omega, rfl⟩
theorem splitS_ok (l : List UInt8) (c : UInt8) (h : Heap) (hl : l.length ≤ 1000000) :
    ACalls Tryz.prog 48 [.string (bs l), .string (bs [c])] h fun v h' => v = .slice (some ⟨h.n, 0, none⟩) (l.count c + 1) (l.count c + 1) ∧ h' = h.push (.cells ((splitB c l).map sv) .ex 1) := by
  refine acalls_of mix Tryz.func48 k48 n48 (by simp) fun hcl hb => ?_
  simp [c48]
  refine (genSplit_ok l c h hl).mono ?_
  rintro _ h9 ⟨rfl, rfl⟩
  simp

def c95 : AC := .seq (.ops [⟨some 2,none,.mv (.tmp 0)⟩,⟨some 3,none,.nilck (.tmp 2)⟩,⟨some 4,none,.fAddr 0 (.tmp 3)⟩,⟨some 5,none,.load none (.tmp 4)⟩,⟨some 6,none,.eqv false .ptr (.tmp 5) (.const (.pointer none))⟩]) (.cond (.tmp 6) (.ops [⟨some 7,none,.mv (.tmp 0)⟩,⟨some 8,none,.mv (.tmp 0)⟩,⟨some 9,none,.uptr (.tmp 8)⟩,⟨some 10,none,.noesc (.tmp 9)⟩,⟨some 11,none,.ptru 121 2 (.tmp 10)⟩,⟨some 12,none,.nilck (.tmp 7)⟩,⟨some 13,none,.fAddr 0 (.tmp 12)⟩,⟨none,none,.store 1 (.tmp 13) (.tmp 11)⟩]) (.seq (.ops [⟨some 14,none,.mv (.tmp 0)⟩,⟨some 15,none,.nilck (.tmp 14)⟩,⟨some 16,none,.fAddr 0 (.tmp 15)⟩,⟨some 17,none,.load none (.tmp 16)⟩,⟨some 18,none,.mv (.tmp 0)⟩,⟨some 19,none,.eqv true .pp (.tmp 17) (.tmp 18)⟩]) (.cond (.tmp 19) .refuse .skip)))
theorem k95 : compF Tryz.prog Tryz.f95 = some (c95, []) := by kernel_rfl
theorem n95 : Tryz.f95.ntmps = 20 := by kernel_rfl
def c96 : AC := .seq (.draw [([⟨some 5,none,.mv (.tmp 0)⟩,⟨some 6,none,.nilck (.tmp 5)⟩,⟨some 7,none,.fAddr 1 (.tmp 6)⟩,⟨some 8,none,.load none (.tmp 7)⟩,⟨some 9,none,.capS (.tmp 8)⟩,⟨some 10,none,.bin .mul (.const (.int .i64 2)) (.tmp 9)⟩,⟨some 11,none,.mv (.tmp 1)⟩,⟨some 12,none,.bin .add (.tmp 10) (.tmp 11)⟩,⟨some 14,none,.mv (.tmp 0)⟩,⟨some 15,none,.nilck (.tmp 14)⟩,⟨some 16,none,.fAddr 1 (.tmp 15)⟩,⟨some 17,none,.load none (.tmp 16)⟩,⟨some 18,none,.lenS false (.tmp 17)⟩],[⟨some 13,none,.mkNZ 5 (.tmp 12)⟩],[⟨some 17,none,.load none (.tmp 16)⟩]),([⟨some 19,none,.slV 1 (.tmp 13) none (some (.tmp 18)) none⟩,⟨some 4,none,.mv (.tmp 19)⟩],[],[])]) (.seq (.ops [⟨some 20,none,.mv (.tmp 4)⟩,⟨some 21,none,.mv (.tmp 0)⟩,⟨some 22,none,.nilck (.tmp 21)⟩,⟨some 23,none,.fAddr 1 (.tmp 22)⟩,⟨some 24,none,.load none (.tmp 23)⟩,⟨some 25,none,.copy 1 (.tmp 20) (.tmp 24)⟩]) (.ops [⟨some 26,none,.mv (.tmp 0)⟩,⟨some 27,none,.mv (.tmp 4)⟩,⟨some 28,none,.nilck (.tmp 26)⟩,⟨some 29,none,.fAddr 1 (.tmp 28)⟩,⟨none,none,.store 1 (.tmp 29) (.tmp 27)⟩]))
theorem k96 : compF Tryz.prog Tryz.f96 = some (c96, []) := by kernel_rfl
theorem n96 : Tryz.f96.ntmps = 30 := by kernel_rfl
def c62 : AC := .seq (.ops [⟨some 4,none,.mv (.tmp 0)⟩,⟨some 5,none,.call 95 [.tmp 4]⟩]) (.seq (.seq (.ops [⟨some 6,none,.mv (.tmp 1)⟩,⟨some 7,none,.bin .lss (.tmp 6) (.const (.int .i64 0))⟩]) (.cond (.tmp 7) (.ops [⟨some 8,none,.mkI 9 (.const (.string ⟨⟨[115,116,114,105,110,103,115,46,66,117,105,108,100,101,114,46,71,114,111,119,58,32,110,101,103,97,116,105,118,101,32,99,111,117,110,116]⟩⟩))⟩,⟨none,none,.bad⟩]) .skip)) (.seq (.draw [([⟨some 9,none,.mv (.tmp 0)⟩,⟨some 10,none,.nilck (.tmp 9)⟩,⟨some 11,none,.fAddr 1 (.tmp 10)⟩,⟨some 12,none,.load none (.tmp 11)⟩,⟨some 13,none,.capS (.tmp 12)⟩,⟨some 14,none,.mv (.tmp 0)⟩,⟨some 15,none,.nilck (.tmp 14)⟩,⟨some 16,none,.fAddr 1 (.tmp 15)⟩,⟨some 17,none,.load none (.tmp 16)⟩,⟨some 18,none,.lenS false (.tmp 17)⟩,⟨some 19,none,.bin .sub (.tmp 13) (.tmp 18)⟩,⟨some 20,none,.mv (.tmp 1)⟩,⟨some 21,none,.bin .lss (.tmp 19) (.tmp 20)⟩],[],[])]) (.cond (.tmp 21) (.ops [⟨some 22,none,.mv (.tmp 0)⟩,⟨some 23,none,.mv (.tmp 1)⟩,⟨some 24,none,.call 96 [.tmp 22,.tmp 23]⟩]) .skip)))
theorem k62 : compF Tryz.prog Tryz.f62 = some (c62, []) := by kernel_rfl
theorem n62 : Tryz.f62.ntmps = 25 := by kernel_rfl
def c63 : AC := .seq (.ops [⟨some 4,none,.mv (.const (.int .i64 0))⟩,⟨some 5,none,.mv (.const .nilIface)⟩]) (.seq (.ops [⟨some 6,none,.mv (.tmp 0)⟩,⟨some 7,none,.call 95 [.tmp 6]⟩]) (.seq (.ops [⟨some 8,none,.mv (.tmp 0)⟩,⟨some 9,none,.mv (.tmp 0)⟩,⟨some 10,none,.nilck (.tmp 9)⟩,⟨some 11,none,.fAddr 1 (.tmp 10)⟩,⟨some 12,none,.load none (.tmp 11)⟩,⟨some 13,none,.mv (.tmp 1)⟩,⟨some 14,none,.app 1 1 5 (.tmp 12) (.tmp 13)⟩,⟨some 15,none,.nilck (.tmp 8)⟩,⟨some 16,none,.fAddr 1 (.tmp 15)⟩,⟨none,none,.store 1 (.tmp 16) (.tmp 14)⟩]) (.seq (.ops [⟨some 17,none,.mv (.tmp 1)⟩,⟨some 18,none,.lenS true (.tmp 17)⟩,⟨some 4,none,.mv (.tmp 18)⟩,⟨some 5,none,.mv (.const .nilIface)⟩]) .ret)))
theorem k63 : compF Tryz.prog Tryz.f63 = some (c63, [4, 5]) := by kernel_rfl
theorem n63 : Tryz.f63.ntmps = 19 := by kernel_rfl
def c64 : AC := .seq (.ops [⟨some 2,none,.mv (.const (.string ⟨⟨[]⟩⟩))⟩]) (.seq (.draw [([⟨some 3,none,.mv (.tmp 0)⟩,⟨some 4,none,.nilck (.tmp 3)⟩,⟨some 5,none,.fAddr 1 (.tmp 4)⟩,⟨some 6,none,.load none (.tmp 5)⟩,⟨some 7,none,.sdata (.tmp 6)⟩,⟨some 8,none,.mv (.tmp 0)⟩,⟨some 9,none,.nilck (.tmp 8)⟩,⟨some 10,none,.fAddr 1 (.tmp 9)⟩,⟨some 11,none,.load none (.tmp 10)⟩,⟨some 12,none,.lenS false (.tmp 11)⟩],[⟨some 13,none,.ustr 5 (.tmp 7) (.tmp 12)⟩],[]),([⟨some 2,none,.mv (.tmp 13)⟩],[],[])]) .ret)
theorem k64 : compF Tryz.prog Tryz.f64 = some (c64, [2]) := by kernel_rfl
theorem n64 : Tryz.f64.ntmps = 14 := by kernel_rfl
abbrev BT : Nat := 121
def unkL (n : Nat) : List Value := List.replicate n unk
theorem unkL_len (n : Nat) : (unkL n).length = n := List.length_replicate
def GB (H : Heap) (x nm n : Nat) (l : List UInt8) : Prop :=
  H.cellsOf x = some ([.pointer (some ⟨x, 0, none⟩), .slice (some ⟨nm, 0, none⟩) l.length n], .exT BT, 1) ∧ H.cellsOf nm = some (ubs l ++ unkL (n - l.length), .loose 5, 1) ∧ nm ≠ x ∧ l.length ≤ n ∧ 0 < n
theorem copyCheck_ok (x : Nat) (ad bv : Value) (h : Heap) (hx : h.cellsOf x = some ([ad, bv], .exT BT, 1)) (had : ad = .pointer none ∨ ad = .pointer (some ⟨x, 0, none⟩)) (hbv : VBelow h.n bv) :
    ACalls Tryz.prog 95 [.pointer (some ⟨x, 0, none⟩)] h fun v h' => v = .tuple #[] ∧ h' = h.set x (.cells [.pointer (some ⟨x, 0, none⟩), bv] (.exT BT) 1) := by
  refine acalls_of mix Tryz.func95 k95 n95 (by simp) fun hcl hb => ?_
  have hxn := cellsOf_lt hcl hx
  rcases had with rfl | rfl
  · have hp : aput [.pointer none, bv] 0 [.pointer (some ⟨x, 0, none⟩)] = [.pointer (some ⟨x, 0, none⟩), bv] := rfl
    simp [c95, hx, apart, aeq, mcells, hp]
  · have hs := set_same (m_of_cells hx)
    simp [c95, hx, apart, aeq, aun, hs]
theorem growB_ok (x n : Nat) (h : Heap) (hx : h.cellsOf x = some ([.pointer none, .slice none 0 0], .exT BT, 1)) (hn0 : 0 < n) (hn : n ≤ 1000000) :
    ACalls Tryz.prog 62 [.pointer (some ⟨x, 0, none⟩), .int .i64 n] h fun v h' => v = .tuple #[] ∧ GB h' x h.n n [] ∧ (∀ y, y < h.n → y ≠ x → h'.m y = h.m y) ∧ h'.n = h.n + 1 := by
  refine acalls_of mix Tryz.func62 k62 n62 (by simp) fun hcl hb => ?_
  have hxn := cellsOf_lt hcl hx
  have hnn : ¬ (n : Int) < 0 := by omega
  have hnp : (0 : Int) < n := by omega
  simp [c62]
  refine (copyCheck_ok x _ _ h hx (.inl rfl) .snil).mono ?_
  rintro _ h9 ⟨rfl, e⟩
  rw [e]; clear e h9
  have hx1 := cellsOf_set h x [.pointer (some ⟨x, 0, none⟩), .slice none 0 0] (.exT BT) 1
  have hw : IntKind.i64.wrap (0 : Int) = 0 := rfl
  have k1 : ∀ y, y ≠ x → (h.set x (.cells [.pointer (some ⟨x, 0, none⟩), .slice none 0 0] (.exT BT) 1)).m y = h.m y := fun y hy => by rw [set_m, if_neg hy]
  have n1 : (h.set x (.cells [.pointer (some ⟨x, 0, none⟩), .slice none 0 0] (.exT BT) 1)).n = h.n := rfl
  generalize h.set x (.cells [.pointer (some ⟨x, 0, none⟩), .slice none 0 0] (.exT BT) 1) = H1 at *
  simp [hnn, hx1, apart, hw, hnp, hn0]
  refine ACalls.mono (R := fun v h' => v = .tuple #[] ∧ h' = (H1.push (.cells (unkL n) (.loose 5) 1)).set x (.cells [.pointer (some ⟨x, 0, none⟩), .slice (some ⟨H1.n, 0, none⟩) 0 n] (.exT BT) 1)) ?_ ?_
  · refine acalls_of mix Tryz.func96 k96 n96 (by simp) fun hcl1 hb => ?_
    have hxn1 := cellsOf_lt hcl1 hx1
    have hx2 : (H1.push (.cells (unkL n) (.loose 5) 1)).cellsOf x = some ([.pointer (some ⟨x, 0, none⟩), .slice none 0 0], .exT BT, 1) := by rw [cellsOf_ne (by omega)]; exact hx1
    have hf2 := cellsOf_new H1 (unkL n) (.loose 5) 1
    have hu : (List.replicate n unk : List Value) = unkL n := rfl
    have hle : (n : Int) ≤ 1099511627776 := by omega
    have hwn : IntKind.i64.wrap (n : Int) = (n : Int) := i64w _ (by omega)
    have b1 : abounds n n none (some (.int .i64 (0 : Int))) none = some (0, 0, n) := abounds_hi (k := 0) (by omega)
    have hp0 : aput (unkL n) 0 [] = unkL n := by simp [aput]
    have hs2 : (H1.push (.cells (unkL n) (.loose 5) 1)).set H1.n (.cells (unkL n) (.loose 5) 1) = H1.push (.cells (unkL n) (.loose 5) 1) := set_push _ _ _
    have hpx : ∀ w, aput [.pointer (some ⟨x, 0, none⟩), .slice none 0 0] 1 [w] = [.pointer (some ⟨x, 0, none⟩), w] := fun w => rfl
    have hmc : mcells (.slice (some ⟨H1.n, 0, none⟩) 0 n) = some [.slice (some ⟨H1.n, 0, none⟩) 0 n] := rfl
    have hxe : ¬ x = H1.n := by omega
    simp [c96, hx1, apart, hw, hwn, hnp, hn0, hle, hu, hx2, hf2, b1, BMode.isLoose, afirst, alen, hp0, hs2, hpx, hmc, unkL_len]
  · rintro _ h9 ⟨rfl, rfl⟩
    simp
    have hne : ¬ H1.n = x := by
      intro q
      have := cellsOf_lt hcl hx
      omega
    refine ⟨⟨by rw [cellsOf_set, n1]; rfl, ?_, by rw [← n1]; exact hne, Nat.zero_le _, hn0⟩, fun y hy hyx => ?_, n1⟩
    · rw [cellsOf_setne _ (by rw [← n1]; exact hne), ← n1, cellsOf_new]
      simp [ubs]
    · rw [set_m, if_neg hyx, push_m, if_neg (by omega), k1 y hyx]
theorem wstr_ok (x nm n : Nat) (l s : List UInt8) (h : Heap) (hG : GB h x nm n l) (hn : l.length + s.length ≤ n) (hn6 : n ≤ 1000000) :
    ACalls Tryz.prog 63 [.pointer (some ⟨x, 0, none⟩), .string (bs s)] h fun v h' => GB h' x nm n (l ++ s) ∧ (∀ y, y ≠ x → y ≠ nm → h'.m y = h.m y) ∧ h'.n = h.n := by
  obtain ⟨hx, hb0, hne, hl, hn0⟩ := hG
  refine acalls_of mix Tryz.func63 k63 n63 (by simp) fun hcl hb => ?_
  have hxn := cellsOf_lt hcl hx
  have hbn := cellsOf_lt hcl hb0
  simp [c63]
  refine (copyCheck_ok x _ _ h hx (.inr rfl) (.slice hbn)).mono ?_
  rintro _ h9 ⟨rfl, e⟩
  rw [set_same (m_of_cells hx)] at e
  rw [e]; clear e h9
  have hlen : (ubs l ++ unkL (n - l.length)).length = n := by rw [List.length_append, ubs_len, unkL_len]; omega
  have hfs : afirst h 1 s.length (.string (bs s)) = some (ubs s) := by
    simp only [afirst, bs_data, List.take_of_length_le (Nat.le_refl _)]
    rfl
  have hcut : acut (ubs l ++ unkL (n - l.length)) 0 l.length = some (ubs l) := by
    unfold acut
    rw [if_pos (by rw [hlen]; omega), List.drop_zero, List.take_append_of_le_length (by rw [ubs_len]; omega), List.take_of_length_le (by rw [ubs_len]; omega)]
  have hput : aput (ubs l ++ unkL (n - l.length)) l.length (ubs s) = ubs (l ++ s) ++ unkL (n - (l.length + s.length)) := by
    unfold aput
    have h1 : (ubs l).length = l.length := ubs_len l
    rw [List.take_append_of_le_length (by omega), List.take_of_length_le (by omega), ubs_len, List.drop_append, List.drop_of_length_le (by omega), h1, ubs_app, List.nil_append]
    congr 1
    unfold unkL
    rw [List.drop_replicate]
    congr 1
    omega
  have happ : aapp h 5 1 1 (some ⟨nm, 0, none⟩) l.length n (ubs s) s.length = some (.slice (some ⟨nm, 0, none⟩) (l.length + s.length) n, h.set nm (.cells (ubs (l ++ s) ++ unkL (n - (l.length + s.length))) (.loose 5) 1)) := by
    unfold aapp
    dsimp only
    rw [if_pos ⟨by omega, by rw [ubs_len]; omega⟩, hb0]
    simp only [if_true, Nat.mul_one, hcut, BMode.isLoose]
    rw [if_pos (by omega), if_pos ⟨by simp, by rw [hlen]; omega⟩, Nat.zero_add, hput]
  have hx2 : (h.set nm (.cells (ubs (l ++ s) ++ unkL (n - (l.length + s.length))) (.loose 5) 1)).cellsOf x = some ([.pointer (some ⟨x, 0, none⟩), .slice (some ⟨nm, 0, none⟩) l.length n], .exT BT, 1) := by
    rw [cellsOf_setne _ (fun q => hne q.symm)]; exact hx
  have hpx : ∀ w z, aput [.pointer (some ⟨x, 0, none⟩), z] 1 [w] = [.pointer (some ⟨x, 0, none⟩), w] := fun w z => rfl
  have hmc : mcells (.slice (some ⟨nm, 0, none⟩) (l.length + s.length) n) = some [.slice (some ⟨nm, 0, none⟩) (l.length + s.length) n] := rfl
  simp [hx, apart, alen, bs_size, hfs, happ, hx2, hmc, hpx]
  refine ⟨⟨?_, ?_, hne, by rw [List.length_append]; omega, hn0⟩, fun y h1 h2 => by rw [set_m, if_neg h1, set_m, if_neg h2]⟩
  · rw [cellsOf_set, List.length_append]
  · rw [cellsOf_setne _ hne, cellsOf_set, List.length_append]
theorem bstr_ok (x nm n : Nat) (l : List UInt8) (h : Heap) (hG : GB h x nm n l) (hl0 : l ≠ []) (hn6 : n ≤ 1000000) :
    ACalls Tryz.prog 64 [.pointer (some ⟨x, 0, none⟩)] h fun v h' => v = .string (bs l) ∧ h'.n = h.n ∧ (∀ y, y ≠ nm → h'.m y = h.m y) := by
  obtain ⟨hx, hb0, hne, hl, hn0⟩ := hG
  refine acalls_of mix Tryz.func64 k64 n64 (by simp) fun hcl hb => ?_
  obtain ⟨n, rfl⟩ : ∃ k, n = k + 1 := ⟨n - 1, by omega⟩
  have hlp : 0 < l.length := by cases l with | nil => exact absurd rfl hl0 | cons a b => simp
  have hl1 : ¬ (l.length : Int) = 0 := by omega
  have hl2 : (l.length : Int) ≤ 9223372036854775807 := by omega
  have hl3 : ¬ l.length = 0 := by omega
  have hlen : (ubs l ++ unkL (n + 1 - l.length)).length = n + 1 := by rw [List.length_append, ubs_len, unkL_len]; omega
  have hcut : acut (ubs l ++ unkL (n + 1 - l.length)) 0 l.length = some (ubs l) := by
    unfold acut
    rw [if_pos (by rw [hlen]; omega), List.drop_zero, List.take_append_of_le_length (by rw [ubs_len]; omega), List.take_of_length_le (by rw [ubs_len]; omega)]
  simp [c64, hx, apart, hlp, hl1, hl2, hl0, hl3, hb0, hcut, abytes_ubs, bs_mk]
  intro y hy
  rw [kill_m, if_neg hy]

def c28_3 : AC := .seq (.ops [⟨some 66,none,.bin .lss (.tmp 65) (.tmp 64)⟩]) (.seq (.cond (.tmp 66) .skip (.exit 3)) (.seq (.block 4 (.seq (.ops [⟨some 67,none,.iAddrS 1 (.tmp 63) (.tmp 65)⟩,⟨some 68,none,.load none (.tmp 67)⟩,⟨some 10,none,.mv (.tmp 68)⟩]) (.seq (.ops [⟨some 69,none,.mv (.tmp 1)⟩,⟨some 70,none,.call 63 [.tmp 8,.tmp 69]⟩]) (.ops [⟨some 71,none,.mv (.tmp 10)⟩,⟨some 72,none,.call 63 [.tmp 8,.tmp 71]⟩])))) (.ops [⟨some 73,none,.bin .add (.tmp 65) (.const (.int .i64 1))⟩,⟨some 65,none,.mv (.tmp 73)⟩])))
def c28_1 : AC := .seq (.ops [⟨some 42,none,.bin .lss (.tmp 41) (.tmp 40)⟩]) (.seq (.cond (.tmp 42) .skip (.exit 1)) (.seq (.block 2 (.seq (.ops [⟨some 43,none,.iAddrS 1 (.tmp 39) (.tmp 41)⟩,⟨some 44,none,.load none (.tmp 43)⟩,⟨some 7,none,.mv (.tmp 44)⟩]) (.seq (.seq (.ops [⟨some 45,none,.mv (.tmp 7)⟩,⟨some 46,none,.lenS true (.tmp 45)⟩,⟨some 47,none,.mv (.tmp 5)⟩,⟨some 48,none,.bin .sub (.const (.int .i64 9223372036854775807)) (.tmp 47)⟩,⟨some 49,none,.bin .gtr (.tmp 46) (.tmp 48)⟩]) (.cond (.tmp 49) (.ops [⟨some 50,none,.mkI 9 (.const (.string ⟨⟨[115,116,114,105,110,103,115,58,32,74,111,105,110,32,111,117,116,112,117,116,32,108,101,110,103,116,104,32,111,118,101,114,102,108,111,119]⟩⟩))⟩,⟨none,none,.bad⟩]) .skip)) (.ops [⟨some 51,none,.mv (.tmp 5)⟩,⟨some 52,none,.mv (.tmp 7)⟩,⟨some 53,none,.lenS true (.tmp 52)⟩,⟨some 54,none,.bin .add (.tmp 51) (.tmp 53)⟩,⟨some 5,none,.mv (.tmp 54)⟩])))) (.ops [⟨some 55,none,.bin .add (.tmp 41) (.const (.int .i64 1))⟩,⟨some 41,none,.mv (.tmp 55)⟩])))
def c28 : AC := .seq (.ops [⟨some 4,none,.mv (.const (.string ⟨⟨[]⟩⟩))⟩]) (.seq (.seq (.ops [⟨some 11,none,.mv (.tmp 0)⟩,⟨some 12,none,.lenS false (.tmp 11)⟩]) (.block 0 (.seq (.ops [⟨some 14,none,.bin .eql (.tmp 12) (.const (.int .i64 0))⟩,⟨some 13,none,.mv (.tmp 14)⟩]) (.cond (.tmp 13) (.seq (.ops [⟨some 4,none,.mv (.const (.string ⟨⟨[]⟩⟩))⟩]) .ret) (.seq (.ops [⟨some 16,none,.bin .eql (.tmp 12) (.const (.int .i64 1))⟩,⟨some 15,none,.mv (.tmp 16)⟩]) (.cond (.tmp 15) (.seq (.ops [⟨some 17,none,.mv (.tmp 0)⟩,⟨some 18,none,.iAddrS 1 (.tmp 17) (.const (.int .i64 0))⟩,⟨some 19,none,.load none (.tmp 18)⟩,⟨some 4,none,.mv (.tmp 19)⟩]) .ret) .skip)))))) (.seq (.ops [⟨some 5,none,.mv (.const (.int .i64 0))⟩]) (.seq (.seq (.ops [⟨some 20,none,.mv (.tmp 1)⟩,⟨some 21,none,.lenS true (.tmp 20)⟩,⟨some 22,none,.bin .gtr (.tmp 21) (.const (.int .i64 0))⟩]) (.cond (.tmp 22) (.seq (.seq (.ops [⟨some 23,none,.mv (.tmp 1)⟩,⟨some 24,none,.lenS true (.tmp 23)⟩,⟨some 25,none,.mv (.tmp 0)⟩,⟨some 26,none,.lenS false (.tmp 25)⟩,⟨some 27,none,.bin .sub (.tmp 26) (.const (.int .i64 1))⟩,⟨some 28,none,.bin .quo (.const (.int .i64 9223372036854775807)) (.tmp 27)⟩,⟨some 29,none,.bin .geq (.tmp 24) (.tmp 28)⟩]) (.cond (.tmp 29) (.ops [⟨some 30,none,.mkI 9 (.const (.string ⟨⟨[115,116,114,105,110,103,115,58,32,74,111,105,110,32,111,117,116,112,117,116,32,108,101,110,103,116,104,32,111,118,101,114,102,108,111,119]⟩⟩))⟩,⟨none,none,.bad⟩]) .skip)) (.ops [⟨some 31,none,.mv (.tmp 5)⟩,⟨some 32,none,.mv (.tmp 1)⟩,⟨some 33,none,.lenS true (.tmp 32)⟩,⟨some 34,none,.mv (.tmp 0)⟩,⟨some 35,none,.lenS false (.tmp 34)⟩,⟨some 36,none,.bin .sub (.tmp 35) (.const (.int .i64 1))⟩,⟨some 37,none,.bin .mul (.tmp 33) (.tmp 36)⟩,⟨some 38,none,.bin .add (.tmp 31) (.tmp 37)⟩,⟨some 5,none,.mv (.tmp 38)⟩])) .skip)) (.seq (.seq (.ops [⟨some 39,none,.mv (.tmp 0)⟩,⟨some 40,none,.lenS false (.tmp 39)⟩,⟨some 41,none,.mv (.const (.int .i64 0))⟩]) (.block 1 (.loop c28_1))) (.seq (.ops [⟨some 8,none,.allocT 121 [.pointer none,.slice none 0 0]⟩]) (.seq (.ops [⟨some 56,none,.mv (.tmp 5)⟩,⟨some 57,none,.call 62 [.tmp 8,.tmp 56]⟩]) (.seq (.ops [⟨some 58,none,.mv (.tmp 0)⟩,⟨some 59,none,.iAddrS 1 (.tmp 58) (.const (.int .i64 0))⟩,⟨some 60,none,.load none (.tmp 59)⟩,⟨some 61,none,.call 63 [.tmp 8,.tmp 60]⟩]) (.seq (.seq (.ops [⟨some 62,none,.mv (.tmp 0)⟩,⟨some 63,none,.slV 1 (.tmp 62) (some (.const (.int .i64 1))) none none⟩,⟨some 64,none,.lenS false (.tmp 63)⟩,⟨some 65,none,.mv (.const (.int .i64 0))⟩]) (.block 3 (.loop c28_3))) (.seq (.ops [⟨some 74,none,.call 64 [.tmp 8]⟩,⟨some 4,none,.mv (.tmp 74)⟩]) .ret)))))))))
theorem k28 : compF Tryz.prog Tryz.f28 = some (c28, [4]) := by kernel_rfl
theorem n28 : Tryz.f28.ntmps = 75 := by kernel_rfl
def joinB (s : List UInt8) : List (List UInt8) → List UInt8
  | [] => []
  | a :: r => a ++ r.flatMap fun x => s ++ x
def sumL (L : List (List UInt8)) : Nat := (L.map List.length).sum
theorem sumL_take (L : List (List UInt8)) (i : Nat) (h : i < L.length) : sumL (L.take (i + 1)) = sumL (L.take i) + L[i].length := by
  unfold sumL
  rw [List.take_succ_eq_append_getElem h, List.map_append, List.sum_append]
  simp
theorem sumL_le (L : List (List UInt8)) (i : Nat) : sumL (L.take i) ≤ sumL L := by
  have : sumL L = sumL (L.take i) + sumL (L.drop i) := by
    unfold sumL
    rw [← List.sum_append, ← List.map_append, List.take_append_drop]
  omega
theorem flatM_len (s : List UInt8) : ∀ r : List (List UInt8), (r.flatMap fun x => s ++ x).length = s.length * r.length + sumL r
  | [] => by simp [sumL]
  | x :: r => by
    rw [List.flatMap_cons, List.length_append, flatM_len s r, List.length_cons, Nat.mul_add, List.length_append]
    simp [sumL]
    omega
def SlJ (h : Heap) (v : Value) (L : List (List UInt8)) : Prop := ∃ b o cap cs m e, v = .slice (some ⟨b, o, none⟩) L.length cap ∧ h.cellsOf b = some (cs, m, e) ∧ (m.isLoose = true → e = 1) ∧ L.length ≤ cap ∧ o + L.length ≤ cs.length ∧
  ∀ i (hi : i < L.length), cs[o + i]? = some (sv L[i])
theorem tdivN (a b : Nat) : (a : Int).tdiv (b : Int) = ((a / b : Nat) : Int) := rfl
structure JS where
  i : Nat
  H : Heap
theorem join_ok (v : Value) (L : List (List UInt8)) (s : List UInt8) (h : Heap) (hs : SlJ h v L) (hL : L ≠ []) (hs0 : s ≠ []) (hb0 : s.length * L.length + sumL L ≤ 1000000) :
    ACalls Tryz.prog 28 [v, .string (bs s)] h fun v h' => v = .string (bs (joinB s L)) ∧ h' = h := by
  refine ACalls.same .string (acalls_of mix Tryz.func28 k28 n28 (by simp) fun hcl hb => ?_)
  obtain ⟨b, o, cap, cs, m, e, rfl, hcell, hle, hcap, hsz, hget⟩ := hs
  have hbn := cellsOf_lt hcl hcell
  have hsl : 1 ≤ s.length := by cases s with | nil => exact absurd rfl hs0 | cons x y => simp
  have hll : 1 ≤ L.length := by cases L with | nil => exact absurd rfl hL | cons x y => simp
  have hLb : L.length ≤ s.length * L.length := Nat.le_mul_of_pos_left _ hsl
  by_cases h1 : L.length = 1
  · obtain ⟨a, rfl⟩ := List.length_eq_one_iff.1 h1
    have hg := hget 0 (by simp)
    simp at hg
    have hi0 : aidx (.int .i64 0) 1 = some 0 := rfl
    have hlt : o < cs.length := by simp at hsz; omega
    simp [c28, hi0, hcell, apart, hg, sv, joinB]
    exact Heap.Ext.refl h
  · obtain ⟨a, r, rfl⟩ : ∃ a r, L = a :: r := by cases L with | nil => exact absurd rfl hL | cons x y => exact ⟨x, y, rfl⟩
    obtain ⟨k, hk⟩ : ∃ k, (a :: r).length = k := ⟨_, rfl⟩
    rw [hk] at hcap hsz h1 hll hLb hb0 hb ⊢
    have hkr : k = r.length + 1 := by rw [← hk]; rfl
    have hk0 : ¬ (k : Int) = 0 := by omega
    have hk1 : ¬ (k : Int) = 1 := by omega
    have hkk0 : ¬ k = 0 := by omega
    have hkm : s.length * k = s.length * (k - 1) + s.length := by
      obtain ⟨j, rfl⟩ : ∃ j, k = j + 1 := ⟨k - 1, by omega⟩
      rw [Nat.add_sub_cancel, Nat.mul_add, Nat.mul_one]
    have w1' : IntKind.i64.wrap ((k : Int) - 1) = ((k - 1 : Nat) : Int) := by rw [IntWalk.i64_in _ (by omega)]; omega
    have hsp : (0 : Int) < s.length := by omega
    have hs0' : 0 < s.length := hsl
    have hk10 : ¬ ((k - 1 : Nat) : Int) = 0 := by omega
    have hk10' : ¬ (k - 1 : Nat) = 0 := by omega
    have hq : IntKind.i64.wrap ((9223372036854775807 : Int).tdiv ((k - 1 : Nat) : Int)) = ((9223372036854775807 / (k - 1) : Nat) : Int) := by
      have e1 : (9223372036854775807 : Int).tdiv ((k - 1 : Nat) : Int) = ((9223372036854775807 / (k - 1) : Nat) : Int) := tdivN 9223372036854775807 (k - 1)
      rw [e1]
      exact i64w _ (Nat.lt_of_le_of_lt (Nat.div_le_self _ _) (by decide))
    have hnq : ¬ ((9223372036854775807 / (k - 1) : Nat) : Int) ≤ (s.length : Int) := by
      have : s.length + 1 ≤ 9223372036854775807 / (k - 1) := by
        rw [Nat.le_div_iff_mul_le (by omega)]
        have : (s.length + 1) * (k - 1) ≤ 2000000 * 1000000 := Nat.mul_le_mul (by omega) (by omega)
        omega
      omega
    have hmul : IntKind.i64.wrap ((s.length : Int) * ((k - 1 : Nat) : Int)) = ((s.length * (k - 1) : Nat) : Int) := by
      rw [← Int.natCast_mul]
      exact i64w _ (by omega)
    have hz : IntKind.i64.wrap ((0 : Int) + ((s.length * (k - 1) : Nat) : Int)) = ((s.length * (k - 1) : Nat) : Int) := by rw [Int.zero_add]; exact i64w _ (by omega)
    have hz2 : IntKind.i64.wrap ((s.length * (k - 1) : Nat) : Int) = ((s.length * (k - 1) : Nat) : Int) := i64w _ (by omega)
    simp only [c28, s_seq, s_ops]
    simp [bs_size, hk0, hk1, hkk0, h1, w1', hsp, hs0', hk10, hk10', hq, hnq, hmul, hz, hz2, -Int.natCast_add, -Int.natCast_mul, -Int.natCast_ediv]
    refine awp_loop_of (α := Nat) (fun i => i ≤ k)
      (fun i => [(0, .slice (some ⟨b, o, none⟩) k cap), (1, .string (bs s)), (39, .slice (some ⟨b, o, none⟩) k cap), (40, .int .i64 k), (41, .int .i64 i), (5, .int .i64 ((s.length * (k - 1) + sumL ((a :: r).take i) : Nat) : Int))]) (fun _ => h) (fun i => k - i) 0
      (Nat.zero_le _) (Heap.Sub.refl hcl) (by simp [sumL, -Int.natCast_mul]; exact ⟨vb_slice hbn, .string, vb_slice hbn, .int, .int, .int⟩) ?_
    intro i hi
    by_cases hik : i < k
    · have hik' : (i : Int) < k := by omega
      have hg := hget i (by omega)
      have hlt : o + i < cs.length := by omega
      have hg' : cs[o + i] = sv (a :: r)[i] := by rw [List.getElem?_eq_getElem hlt] at hg; exact Option.some.inj hg
      have hst := sumL_take (a :: r) i (by omega)
      have hsle := sumL_le (a :: r) (i + 1)
      have w2 : IntKind.i64.wrap ((9223372036854775807 : Int) - ((s.length * (k - 1) + sumL ((a :: r).take i) : Nat) : Int)) = ((9223372036854775807 - (s.length * (k - 1) + sumL ((a :: r).take i)) : Nat) : Int) := by rw [IntWalk.i64_in _ (by omega)]; omega
      have hng : ¬ ((9223372036854775807 - (s.length * (k - 1) + sumL ((a :: r).take i)) : Nat) : Int) < ((a :: r)[i].length : Int) := by omega
      have w3 : IntKind.i64.wrap (((s.length * (k - 1) + sumL ((a :: r).take i) : Nat) : Int) + ((a :: r)[i].length : Int)) = ((s.length * (k - 1) + sumL ((a :: r).take (i + 1)) : Nat) : Int) := by rw [IntWalk.i64_in _ (by omega)]; omega
      have w4 : IntKind.i64.wrap ((i : Int) + 1) = ((i + 1 : Nat) : Int) := w1 i (by omega)
      generalize (a :: r)[i] = x at *
      generalize sumL ((a :: r).take i) = S1 at *
      generalize hS2 : sumL ((a :: r).take (i + 1)) = S2 at *
      simp [c28_1, hik', aidx_of hik, hcell, apart, hlt, hg', sv, bs_size, w2, hng, w3, w4, -Int.natCast_add, -Int.natCast_mul]
      exact ⟨i + 1, by omega, by omega, Heap.Sub.refl hcl, vb_slice hbn, .string, vb_slice hbn, .int, ⟨rfl, .int⟩, ⟨by rw [hS2], .int⟩⟩
    · have hie : i = k := by omega
      subst hie
      have hta : (a :: r).take i = a :: r := List.take_of_length_le (by omega)
      rw [hta]
      have hfl := flatM_len s r
      have hsa : sumL (a :: r) = a.length + sumL r := by simp [sumL]
      have hr1 : i - 1 = r.length := by omega
      have htot : s.length * (i - 1) + sumL (a :: r) = (joinB s (a :: r)).length := by
        show _ = (a ++ r.flatMap fun x => s ++ x).length
        rw [List.length_append, hfl, hsa, hr1]; omega
      rw [htot]
      have hJ : (joinB s (a :: r)).length ≤ 1000000 := by omega
      have hJ0 : 0 < (joinB s (a :: r)).length := by
        rw [← htot]
        have : 1 * 1 ≤ s.length * (i - 1) := Nat.mul_le_mul hsl (by omega)
        omega
      generalize hnJ : (joinB s (a :: r)).length = n at *
      have hbel2 : ∀ m, ∀ z ∈ ([.pointer none, .slice none 0 0] : List Value), VBelow m z := fun m z hz => by
        simp at hz
        rcases hz with rfl | rfl
        · exact .pnil
        · exact .snil
      have hc1 : (h.push (.cells [.pointer none, .slice none 0 0] (.exT BT) 1)).Closed := closed_push hcl (hbel2 _)
      have hx1 := cellsOf_new h [.pointer none, .slice none 0 0] (.exT BT) 1
      have k1 : ∀ y, y < h.n → (h.push (.cells [.pointer none, .slice none 0 0] (.exT BT) 1)).m y = h.m y := fun y hy => by rw [push_m, if_neg (by omega)]
      have n1 : (h.push (.cells [.pointer none, .slice none 0 0] (.exT BT) 1)).n = h.n + 1 := rfl
      simp [c28_1]
      generalize h.push (.cells [.pointer none, .slice none 0 0] (.exT BT) 1) = H1 at *
      refine (growB_ok h.n n H1 hx1 hJ0 hJ).mono' ?_
      rintro _ H2 hc2 _ ⟨rfl, hG2, k2, n2⟩
      have hcell2 : H2.cellsOf b = some (cs, m, e) := by
        unfold Heap.cellsOf at hcell ⊢
        rw [k2 b (by omega) (by omega), k1 b hbn]; exact hcell
      have hg0 := hget 0 (by omega)
      have hlt0 : o < cs.length := by omega
      have hg0' : cs[o] = .string (bs a) := by rw [Nat.add_zero, List.getElem?_eq_getElem hlt0] at hg0; exact Option.some.inj hg0
      have hi0 : aidx (.int .i64 0) i = some 0 := aidx_of (i := 0) (by omega)
      simp [hi0, hcell2, apart, hlt0, hg0']
      have hale : a.length ≤ n := by rw [← hnJ]; show a.length ≤ (a ++ _).length; rw [List.length_append]; omega
      refine (wstr_ok h.n H1.n n [] a H2 hG2 (by simpa using hale) hJ).mono' ?_
      rintro _ H3 hc3 _ ⟨hG3, k3, n3⟩
      have k3' : ∀ y, y < h.n → H3.m y = h.m y := fun y hy => by rw [k3 y (by omega) (by omega), k2 y (by omega) (by omega), k1 y hy]
      have hcell3 : H3.cellsOf b = some (cs, m, e) := by
        unfold Heap.cellsOf at hcell ⊢
        rw [k3' b hbn]; exact hcell
      have bl : abounds i cap (some (.int .i64 1)) none none = some (1, i, cap) := abounds_lo (l := 1) (by omega) hcap
      simp [bl, hcell3]
      rw [if_pos hle]
      simp
      rw [List.nil_append] at hG3
      refine awp_loop_of (α := JS) (fun z => z.i ≤ r.length ∧ GB z.H h.n H1.n n (a ++ (r.take z.i).flatMap fun x => s ++ x) ∧ z.H.Closed ∧ (∀ y, y < h.n → z.H.m y = h.m y) ∧ z.H.n = H3.n)
        (fun z => [(1, .string (bs s)), (8, .pointer (some ⟨h.n, 0, none⟩)), (63, .slice (some ⟨b, o + 1, none⟩) (i - 1) (cap - 1)), (64, .int .i64 (i - 1 : Nat)), (65, .int .i64 z.i)]) (fun z => z.H) (fun z => r.length - z.i) ⟨0, H3⟩
        ⟨Nat.zero_le _, by simpa using hG3, hc3, k3', rfl⟩ ⟨by show h.n ≤ H3.n; omega, Nat.le_refl _, fun _ _ e => e, hc3⟩ (by simp; exact ⟨.string, .ptr (by show h.n < H3.n; omega), vb_slice (by omega), .int, .int⟩) ?_
      rintro ⟨j, H⟩ ⟨hj, hG, hcH, kH, nH⟩
      dsimp only at hj hG hcH kH nH ⊢
      have hcellH : H.cellsOf b = some (cs, m, e) := by
        unfold Heap.cellsOf at hcell ⊢
        rw [kH b hbn]; exact hcell
      by_cases hjr : j < r.length
      · have hjr' : (j : Int) < ((i - 1 : Nat) : Int) := by omega
        have hg := hget (j + 1) (by omega)
        have hlt : o + 1 + j < cs.length := by omega
        have hg' : cs[o + 1 + j] = .string (bs r[j]) := by
          have : cs[o + (j + 1)]? = some (sv r[j]) := hg
          rw [show o + (j + 1) = o + 1 + j by omega, List.getElem?_eq_getElem hlt] at this
          exact Option.some.inj this
        have hix : aidx (.int .i64 (j : Int)) (i - 1) = some j := aidx_of (by omega)
        have w4 : IntKind.i64.wrap ((j : Int) + 1) = ((j + 1 : Nat) : Int) := w1 j (by omega)
        have hnx : (r.take (j + 1)).flatMap (fun x => s ++ x) = (r.take j).flatMap (fun x => s ++ x) ++ s ++ r[j] := by
          rw [List.take_succ_eq_append_getElem hjr, List.flatMap_append]
          simp
        have hjn : (a ++ (r.take (j + 1)).flatMap fun x => s ++ x).length ≤ n := by
          have h5 := flatM_len s (r.take (j + 1))
          have h6 := sumL_le r (j + 1)
          have h7 : s.length * (r.take (j + 1)).length ≤ s.length * r.length := Nat.mul_le_mul_left _ (by rw [List.length_take]; omega)
          rw [List.length_append, h5]
          rw [← hr1] at h7
          omega
        rw [hnx] at hjn
        generalize hX : (r.take j).flatMap (fun x => s ++ x) = X at *
        generalize r[j] = y at *
        simp only [List.length_append] at hjn
        simp [c28_3, hjr', hix, hcellH, apart, hlt, hg']
        refine (wstr_ok h.n H1.n n (a ++ X) s H hG (by rw [List.length_append]; omega) hJ).mono' ?_
        rintro _ H4 hc4 _ ⟨hG4, k4, n4⟩
        simp
        refine (wstr_ok h.n H1.n n (a ++ X ++ s) y H4 hG4 (by simp only [List.length_append]; omega) hJ).mono' ?_
        rintro _ H5 hc5 _ ⟨hG5, k5, n5⟩
        simp [w4, -Int.natCast_add]
        refine ⟨⟨j + 1, H5⟩, by show r.length - (j + 1) < r.length - j; omega, ⟨by show j + 1 ≤ r.length; omega, by show GB H5 h.n H1.n n (a ++ (r.take (j + 1)).flatMap fun x => s ++ x); rw [hnx]; simpa using hG5, hc5, fun z hz => by rw [k5 z (by omega) (by omega), k4 z (by omega) (by omega), kH z hz], by show H5.n = H3.n; omega⟩,
          ⟨by show h.n ≤ H5.n; omega, Nat.le_refl _, fun _ _ e => e, hc5⟩, .string, .ptr (by show h.n < H5.n; omega), vb_slice (by show b < H5.n; omega), .int, rfl, .int⟩
      · have hje : j = r.length := by omega
        subst hje
        rw [List.take_of_length_le (Nat.le_refl _)] at hG
        have hJe : a ++ (r.flatMap fun x => s ++ x) = joinB s (a :: r) := rfl
        rw [hJe] at hG
        have hrn : ¬ ((r.length : Nat) : Int) < ((i - 1 : Nat) : Int) := by omega
        simp [c28_3, hrn]
        refine (bstr_ok h.n H1.n n _ H hG (fun q => by rw [q] at hnJ; simp at hnJ; omega) hJ).mono' ?_
        rintro _ H6 hc6 _ ⟨rfl, n6, k6⟩
        simp
        exact ⟨by omega, fun z ob ez => by rw [k6 z (by have := (hcl z ob ez).1; omega), kH z (hcl z ob ez).1]; exact ez⟩

def c157 : AC := .seq (.ops [⟨some 2,none,.mv (.const (.string ⟨⟨[]⟩⟩))⟩]) (.seq (.seq (.ops [⟨some 3,none,.mv (.tmp 0)⟩,⟨some 4,none,.bin .lss (.tmp 3) (.const (.int .i64 10))⟩]) (.cond (.tmp 4) (.seq (.ops [⟨some 5,none,.mv (.tmp 0)⟩,⟨some 6,none,.mv (.tmp 0)⟩,⟨some 7,none,.bin .add (.tmp 6) (.const (.int .i64 1))⟩,⟨some 8,none,.slS (.const (.string ⟨⟨[48,49,50,51,52,53,54,55,56,57,97,98,99,100,101,102,103,104,105,106,107,108,109,110,111,112,113,114,115,116,117,118,119,120,121,122]⟩⟩)) (some (.tmp 5)) (some (.tmp 7))⟩,⟨some 2,none,.mv (.tmp 8)⟩]) .ret) .skip)) (.seq (.ops [⟨some 9,none,.mv (.tmp 0)⟩,⟨some 10,none,.bin .mul (.tmp 9) (.const (.int .i64 2))⟩,⟨some 11,none,.mv (.tmp 0)⟩,⟨some 12,none,.bin .mul (.tmp 11) (.const (.int .i64 2))⟩,⟨some 13,none,.bin .add (.tmp 12) (.const (.int .i64 2))⟩,⟨some 14,none,.slS (.const (.string ⟨⟨[48,48,48,49,48,50,48,51,48,52,48,53,48,54,48,55,48,56,48,57,49,48,49,49,49,50,49,51,49,52,49,53,49,54,49,55,49,56,49,57,50,48,50,49,50,50,50,51,50,52,50,53,50,54,50,55,50,56,50,57,51,48,51,49,51,50,51,51,51,52,51,53,51,54,51,55,51,56,51,57,52,48,52,49,52,50,52,51,52,52,52,53,52,54,52,55,52,56,52,57,53,48,53,49,53,50,53,51,53,52,53,53,53,54,53,55,53,56,53,57,54,48,54,49,54,50,54,51,54,52,54,53,54,54,54,55,54,56,54,57,55,48,55,49,55,50,55,51,55,52,55,53,55,54,55,55,55,56,55,57,56,48,56,49,56,50,56,51,56,52,56,53,56,54,56,55,56,56,56,57,57,48,57,49,57,50,57,51,57,52,57,53,57,54,57,55,57,56,57,57]⟩⟩)) (some (.tmp 10)) (some (.tmp 13))⟩,⟨some 2,none,.mv (.tmp 14)⟩]) .ret))
theorem k157 : compF Tryz.prog Tryz.f157 = some (c157, [2]) := by kernel_rfl
theorem n157 : Tryz.f157.ntmps = 15 := by kernel_rfl
def c169 : AC := .seq (.ops [⟨some 2,none,.mv (.const (.int .i64 0))⟩]) (.seq (.ops [⟨some 3,none,.mv (.tmp 0)⟩,⟨some 4,none,.bin .mul (.tmp 3) (.const (.int .i64 78913))⟩,⟨some 5,none,.bin .shr (.tmp 4) (.const (.int .u64 18))⟩,⟨some 2,none,.mv (.tmp 5)⟩]) .ret)
theorem k169 : compF Tryz.prog Tryz.f169 = some (c169, [2]) := by kernel_rfl
theorem n169 : Tryz.f169.ntmps = 6 := by kernel_rfl
def c171 : AC := .seq (.ops [⟨some 2,none,.mv (.const (.int .i64 0))⟩]) (.seq (.seq (.ops [⟨some 3,none,.mv (.tmp 0)⟩]) (.cond (.tmp 3) (.seq (.ops [⟨some 2,none,.mv (.const (.int .i64 1))⟩]) .ret) .skip)) (.seq (.ops [⟨some 2,none,.mv (.const (.int .i64 0))⟩]) .ret))
theorem k171 : compF Tryz.prog Tryz.f171 = some (c171, [2]) := by kernel_rfl
theorem n171 : Tryz.f171.ntmps = 4 := by kernel_rfl
def digN : Nat → Nat → List UInt8
  | 0, _ => []
  | k + 1, u => digN k (u / 10) ++ [UInt8.ofNat (48 + u % 10)]
theorem digN_len : ∀ k u, (digN k u).length = k
  | 0, _ => rfl
  | k + 1, u => by rw [digN, List.length_append, digN_len k]; rfl
theorem digN_add : ∀ (a b u : Nat), digN (a + b) u = digN a (u / 10 ^ b) ++ digN b u
  | a, 0, u => by simp [digN]
  | a, b + 1, u => by
    rw [← Nat.add_assoc, digN, digN_add a b, digN, List.append_assoc, Nat.div_div_eq_div_mul, Nat.pow_succ, Nat.mul_comm]
def ndigF : Nat → Nat → Nat
  | 0, _ => 1
  | f + 1, u => if u < 10 then 1 else ndigF f (u / 10) + 1
def ndig (u : Nat) : Nat := ndigF 20 u
theorem ndigF_eq : ∀ (k f u : Nat), k < f → 10 ^ k ≤ u ∨ k = 0 → u < 10 ^ (k + 1) → ndigF f u = k + 1
  | k, 0, u, h, _, _ => by omega
  | 0, f + 1, u, _, _, h => by rw [ndigF, if_pos (by omega)]
  | k + 1, f + 1, u, hk, h1, h2 => by
    have h1' : 10 ^ (k + 1) ≤ u := by rcases h1 with h | h; exact h; omega
    have hp : 1 ≤ 10 ^ k := Nat.one_le_pow _ _ (by omega)
    rw [Nat.pow_succ] at h1'
    rw [ndigF, if_neg (by omega), ndigF_eq k f (u / 10) (by omega) (.inl (by omega)) (by rw [Nat.pow_succ] at h2; omega)]
theorem ndig_eq {k u : Nat} (hk : k < 20) (h1 : 10 ^ k ≤ u ∨ k = 0) (h2 : u < 10 ^ (k + 1)) : ndig u = k + 1 := ndigF_eq k 20 u hk h1 h2
theorem ndig_ex : ∀ (n u : Nat), n ≤ 20 → 0 < n → u < 10 ^ n → ∃ k, k < n ∧ (10 ^ k ≤ u ∨ k = 0) ∧ u < 10 ^ (k + 1)
  | 0, u, _, h, _ => by omega
  | n + 1, u, hn, _, h => by
    by_cases hu : 10 ^ n ≤ u
    · exact ⟨n, by omega, .inl hu, h⟩
    · by_cases h0 : n = 0
      · subst h0; exact ⟨0, by omega, .inr rfl, h⟩
      · obtain ⟨k, h1, h2, h3⟩ := ndig_ex n u (by omega) (by omega) (by omega)
        exact ⟨k, by omega, h2, h3⟩
def dec (u : Nat) : List UInt8 := digN (ndig u) u
def itoaB (n : Int) : List UInt8 := if n < 0 then 45 :: dec n.natAbs else dec n.toNat
def digs36 : List UInt8 := [48, 49, 50, 51, 52, 53, 54, 55, 56, 57, 97, 98, 99, 100, 101, 102, 103, 104, 105, 106, 107, 108, 109, 110, 111, 112, 113, 114, 115, 116, 117, 118, 119, 120, 121, 122]
def smalls : List UInt8 := (List.range 100).flatMap fun k => [UInt8.ofNat (48 + k / 10), UInt8.ofNat (48 + k % 10)]
theorem cut36 (k : Nat) (h : k < 10) : (digs36.take (k + 1)).drop k = dec k := by
  have : ∀ j : Fin 10, (digs36.take (j.val + 1)).drop j.val = dec j.val := by decide
  exact this ⟨k, h⟩
theorem cutSm (k : Nat) (h : k < 100) (h1 : 10 ≤ k) : (smalls.take (2 * k + 2)).drop (2 * k) = dec k := by
  have : ((List.range 100).all fun j => decide (j < 10) || decide ((smalls.take (2 * j + 2)).drop (2 * j) = dec j)) = true := by kernel_rfl
  have := List.all_eq_true.1 this k (List.mem_range.2 h)
  simp only [Bool.or_eq_true, decide_eq_true_eq] at this
  rcases this with q | q
  · omega
  · exact q
theorem small_ok (n : Nat) (hn : n < 100) (h : Heap) : ACalls Tryz.prog 157 [.int .i64 n] h fun v h' => v = .string (bs (dec n)) ∧ h' = h := by
  refine acalls_of mix Tryz.func157 k157 n157 (by simp) fun hcl hb => ?_
  have hcd : (⟨⟨[48, 49, 50, 51, 52, 53, 54, 55, 56, 57, 97, 98, 99, 100, 101, 102, 103, 104, 105, 106, 107, 108, 109, 110, 111, 112, 113, 114, 115, 116, 117, 118, 119, 120, 121, 122]⟩⟩ : ByteArray) = bs digs36 := rfl
  by_cases h10 : n < 10
  · have h10' : (n : Int) < 10 := by omega
    have e1 := w1 n (by omega)
    have hs : (bs digs36).size = 36 := rfl
    have b1 : abounds 36 36 (some (.int .i64 (n : Int))) (some (.int .i64 ((n + 1 : Nat) : Int))) none = some (n, n + 1, 36) := abounds_lohi (by omega) (by omega)
    simp [c157, h10', e1, hcd, hs, b1, bs_extract, cut36 n h10, -Int.natCast_add]
  · have h10' : ¬ (n : Int) < 10 := by omega
    have hs : (bs smalls).size = 200 := by rw [bs_size]; kernel_rfl
    have e1 : IntKind.i64.wrap ((n : Int) * 2) = ((2 * n : Nat) : Int) := by rw [IntWalk.i64_in _ (by omega)]; omega
    have e2 : IntKind.i64.wrap (((2 * n : Nat) : Int) + 2) = ((2 * n + 2 : Nat) : Int) := by rw [IntWalk.i64_in _ (by omega)]; omega
    have b1 : abounds 200 200 (some (.int .i64 ((2 * n : Nat) : Int))) (some (.int .i64 ((2 * n + 2 : Nat) : Int))) none = some (2 * n, 2 * n + 2, 200) := abounds_lohi (by omega) (by omega)
    have hsm : smalls = [48, 48] ++ smalls.drop 2 := by kernel_rfl
    simp only [c157, s_seq, s_ops, bs_lit]
    have hcs : ∀ l : List UInt8, l = smalls → bs l = bs smalls := fun l e => by rw [e]
    simp [h10', e1, e2, -Int.natCast_add, -Int.natCast_mul]
    rw [hcs _ (by kernel_rfl)]
    simp [hs, b1, bs_extract, cutSm n hn (by omega), -Int.natCast_add, -Int.natCast_mul]
theorem log10_ok (n : Nat) (hn : n ≤ 64) (h : Heap) : ACalls Tryz.prog 169 [.int .i64 n] h fun v h' => v = .int .i64 ((n * 78913 / 262144 : Nat) : Int) ∧ h' = h := by
  refine acalls_of mix Tryz.func169 k169 n169 (by simp) fun hcl hb => ?_
  have e1 : IntKind.i64.wrap ((n : Int) * 78913) = ((n * 78913 : Nat) : Int) := by rw [IntWalk.i64_in _ (by omega)]; omega
  have hm : min 18 IntKind.i64.bits = 18 := rfl
  have e2 : ((n * 78913 : Nat) : Int).fdiv 262144 = ((n * 78913 / 262144 : Nat) : Int) := by rw [Int.fdiv_eq_ediv_of_nonneg _ (by decide)]; omega
  simp [c169, e1, hm, e2, -Int.natCast_mul, -Int.natCast_ediv]
theorem bool2_ok (b : Bool) (h : Heap) : ACalls Tryz.prog 171 [.bool b] h fun v h' => v = .int .i64 ((if b then 1 else 0 : Nat) : Int) ∧ h' = h := by
  refine acalls_of mix Tryz.func171 k171 n171 (by simp) fun hcl hb => ?_
  cases b <;> simp [c171]

def c170 : AC := .seq (.ops [⟨some 2,none,.mv (.const (.int .i64 0))⟩]) (.seq (.seq (.ops [⟨some 3,none,.mv (.tmp 0)⟩,⟨some 4,none,.bin .geq (.tmp 3) (.const (.int .u64 4294967296))⟩]) (.cond (.tmp 4) (.seq (.ops [⟨some 5,none,.mv (.tmp 0)⟩,⟨some 6,none,.bin .shr (.tmp 5) (.const (.int .u64 32))⟩,⟨some 0,none,.mv (.tmp 6)⟩]) (.ops [⟨some 2,none,.mv (.const (.int .i64 32))⟩])) .skip)) (.seq (.seq (.ops [⟨some 7,none,.mv (.tmp 0)⟩,⟨some 8,none,.bin .geq (.tmp 7) (.const (.int .u64 65536))⟩]) (.cond (.tmp 8) (.seq (.ops [⟨some 9,none,.mv (.tmp 0)⟩,⟨some 10,none,.bin .shr (.tmp 9) (.const (.int .u64 16))⟩,⟨some 0,none,.mv (.tmp 10)⟩]) (.ops [⟨some 11,none,.mv (.tmp 2)⟩,⟨some 12,none,.bin .add (.tmp 11) (.const (.int .i64 16))⟩,⟨some 2,none,.mv (.tmp 12)⟩])) .skip)) (.seq (.seq (.ops [⟨some 13,none,.mv (.tmp 0)⟩,⟨some 14,none,.bin .geq (.tmp 13) (.const (.int .u64 256))⟩]) (.cond (.tmp 14) (.seq (.ops [⟨some 15,none,.mv (.tmp 0)⟩,⟨some 16,none,.bin .shr (.tmp 15) (.const (.int .u64 8))⟩,⟨some 0,none,.mv (.tmp 16)⟩]) (.ops [⟨some 17,none,.mv (.tmp 2)⟩,⟨some 18,none,.bin .add (.tmp 17) (.const (.int .i64 8))⟩,⟨some 2,none,.mv (.tmp 18)⟩])) .skip)) (.seq (.ops [⟨some 19,none,.mv (.tmp 2)⟩,⟨some 20,none,.mv (.tmp 0)⟩,⟨some 21,none,.toInt .u8 (.tmp 20)⟩,⟨some 22,none,.iStr (.const (.string ⟨⟨[0,1,2,2,3,3,3,3,4,4,4,4,4,4,4,4,5,5,5,5,5,5,5,5,5,5,5,5,5,5,5,5,6,6,6,6,6,6,6,6,6,6,6,6,6,6,6,6,6,6,6,6,6,6,6,6,6,6,6,6,6,6,6,6,7,7,7,7,7,7,7,7,7,7,7,7,7,7,7,7,7,7,7,7,7,7,7,7,7,7,7,7,7,7,7,7,7,7,7,7,7,7,7,7,7,7,7,7,7,7,7,7,7,7,7,7,7,7,7,7,7,7,7,7,7,7,7,7,8,8,8,8,8,8,8,8,8,8,8,8,8,8,8,8,8,8,8,8,8,8,8,8,8,8,8,8,8,8,8,8,8,8,8,8,8,8,8,8,8,8,8,8,8,8,8,8,8,8,8,8,8,8,8,8,8,8,8,8,8,8,8,8,8,8,8,8,8,8,8,8,8,8,8,8,8,8,8,8,8,8,8,8,8,8,8,8,8,8,8,8,8,8,8,8,8,8,8,8,8,8,8,8,8,8,8,8,8,8,8,8,8,8,8,8,8,8,8,8,8,8,8,8,8,8,8,8]⟩⟩)) (.tmp 21)⟩,⟨some 23,none,.toInt .i64 (.tmp 22)⟩,⟨some 24,none,.bin .add (.tmp 19) (.tmp 23)⟩,⟨some 2,none,.mv (.tmp 24)⟩]) .ret))))
theorem k170 : compF Tryz.prog Tryz.f170 = some (c170, [2]) := by kernel_rfl
theorem n170 : Tryz.f170.ntmps = 25 := by kernel_rfl
def c158 : AC := .seq (.ops [⟨some 2,none,.mv (.const (.int .i64 0))⟩]) (.seq (.ops [⟨some 4,none,.mv (.tmp 0)⟩,⟨some 5,none,.call 170 [.tmp 4]⟩,⟨some 6,none,.call 169 [.tmp 5]⟩,⟨some 3,none,.mv (.tmp 6)⟩]) (.seq (.ops [⟨some 7,none,.mv (.tmp 3)⟩,⟨some 8,none,.mv (.tmp 0)⟩,⟨some 9,none,.mv (.tmp 3)⟩,⟨some 10,none,.iAddrA 20 1 (.global 5) (.tmp 9)⟩,⟨some 11,none,.load none (.tmp 10)⟩,⟨some 12,none,.bin .geq (.tmp 8) (.tmp 11)⟩,⟨some 13,none,.call 171 [.tmp 12]⟩,⟨some 14,none,.bin .add (.tmp 7) (.tmp 13)⟩,⟨some 2,none,.mv (.tmp 14)⟩]) .ret))
theorem k158 : compF Tryz.prog Tryz.f158 = some (c158, [2]) := by kernel_rfl
theorem n158 : Tryz.f158.ntmps = 15 := by kernel_rfl
def l8F : Nat → Nat → Nat
  | 0, _ => 0
  | f + 1, x => if x = 0 then 0 else l8F f (x / 2) + 1
def l8 (x : Nat) : Nat := l8F 8 x
def l8L : List UInt8 := (List.range 256).map fun x => UInt8.ofNat (l8 x)
theorem l8_get (x : Nat) (h : x < 256) : l8L[x]? = some (UInt8.ofNat (l8 x)) := by
  unfold l8L
  rw [List.getElem?_map, List.getElem?_range h]
  rfl
theorem l8_ok (x : Nat) (h : x < 256) : l8 x ≤ 8 ∧ x < 2 ^ l8 x ∧ (x ≠ 0 → 1 ≤ l8 x ∧ 2 ^ (l8 x - 1) ≤ x) := by
  have : ((List.range 256).all fun x => decide (l8 x ≤ 8) && decide (x < 2 ^ l8 x) && (decide (x = 0) || (decide (1 ≤ l8 x) && decide (2 ^ (l8 x - 1) ≤ x)))) = true := by kernel_rfl
  have := List.all_eq_true.1 this x (List.mem_range.2 h)
  simp only [Bool.and_eq_true, Bool.or_eq_true, decide_eq_true_eq] at this
  refine ⟨this.1.1, this.1.2, fun h0 => ?_⟩
  rcases this.2 with q | q
  · exact absurd q h0
  · exact q
def Bits (u L : Nat) : Prop := 1 ≤ L ∧ L ≤ 64 ∧ 2 ^ (L - 1) ≤ u ∧ u < 2 ^ L
theorem bits_of {u s : Nat} (h : u / 2 ^ s < 256) (h0 : u / 2 ^ s ≠ 0) (hs : s ≤ 56) : Bits u (s + l8 (u / 2 ^ s)) := by
  obtain ⟨h1, h2, h3⟩ := l8_ok _ h
  obtain ⟨h4, h5⟩ := h3 h0
  have hp : 0 < 2 ^ s := Nat.pow_pos (by omega)
  refine ⟨by omega, by omega, ?_, ?_⟩
  · rw [show s + l8 (u / 2 ^ s) - 1 = (l8 (u / 2 ^ s) - 1) + s by omega, Nat.pow_add]
    exact (Nat.le_div_iff_mul_le hp).1 h5
  · rw [Nat.add_comm, Nat.pow_add]
    exact (Nat.div_lt_iff_lt_mul hp).1 h2
theorem fdivN (a b : Nat) (hb : 0 < b) : (a : Int).fdiv (b : Int) = ((a / b : Nat) : Int) := by rw [Int.fdiv_eq_ediv_of_nonneg _ (by omega)]; rfl
theorem len64_ok (u : Nat) (hu : u < 2 ^ 64) (h0 : 0 < u) (h : Heap) : ACalls Tryz.prog 170 [.int .u64 u] h fun v h' => (∃ L, v = .int .i64 (L : Nat) ∧ Bits u L) ∧ h' = h := by
  refine acalls_of mix Tryz.func170 k170 n170 (by simp) fun hcl hb => ?_
  have hu' : u < 18446744073709551616 := hu
  have f32 : (u : Int).fdiv 4294967296 = ((u / 4294967296 : Nat) : Int) := fdivN u 4294967296 (by decide)
  have f16 : ∀ v : Nat, (v : Int).fdiv 65536 = ((v / 65536 : Nat) : Int) := fun v => fdivN v 65536 (by decide)
  have f8 : ∀ v : Nat, (v : Int).fdiv 256 = ((v / 256 : Nat) : Int) := fun v => fdivN v 256 (by decide)
  have m32 : min 32 IntKind.u64.bits = 32 := rfl
  have m16 : min 16 IntKind.u64.bits = 16 := rfl
  have m8 : min 8 IntKind.u64.bits = 8 := rfl
  have hw8 : ∀ x : Nat, x < 256 → IntKind.u8.wrap (x : Int) = (x : Int) := fun x hx => by unfold IntKind.wrap; simp [IntKind.bits, IntKind.signed]; omega
  have hsz : (bs l8L).size = 256 := by rw [bs_size]; kernel_rfl
  have hcs : ∀ l : List UInt8, l = l8L → bs l = bs l8L := fun l e => by rw [e]
  have ww : ∀ z : Int, 0 ≤ z → z < 1000 → IntKind.i64.wrap z = z := fun z _ _ => IntWalk.i64_in _ (by omega)
  have close : ∀ (x s : Nat) (c : Int), s ≤ 56 → x = u / 2 ^ s → x < 256 → x ≠ 0 → c = s → ∃ L : Nat, IntKind.i64.wrap (c + IntKind.i64.wrap ((l8 x : Int) % 256)) = (L : Int) ∧ Bits u L := by
    intro x s c hs hx hx2 hx0 hc
    subst hx
    have hb := bits_of hx2 hx0 hs
    obtain ⟨h1, _⟩ := l8_ok _ hx2
    refine ⟨_, ?_, hb⟩
    have e1 : ((l8 (u / 2 ^ s) : Nat) : Int) % 256 = (l8 (u / 2 ^ s) : Int) := by omega
    have e2 := ww (l8 (u / 2 ^ s) : Int) (by omega) (by omega)
    rw [hc, e1, e2, ww _ (by omega) (by omega)]
    rfl
  simp only [c170, s_seq, s_ops, bs_lit]
  rw [hcs _ (by kernel_rfl)]
  by_cases q32 : 4294967296 ≤ u
  · have a32 : (4294967296 : Int) ≤ (u : Int) := by omega
    simp [a32, f32, m32, -Int.natCast_ediv]
    by_cases q16 : 65536 ≤ u / 4294967296
    · have a16 : (65536 : Int) ≤ ((u / 4294967296 : Nat) : Int) := by omega
      simp [a16, f16, m16, -Int.natCast_ediv]
      by_cases q8 : 256 ≤ u / 4294967296 / 65536
      · have a8 : (256 : Int) ≤ ((u / 4294967296 / 65536 : Nat) : Int) := by omega
        have hx : u / 4294967296 / 65536 / 256 < 256 := by omega
        have g := l8_get _ hx
        simp [a8, f8, m8, hw8 _ hx, hsz, aidx_of hx, bs_data, g, -Int.natCast_ediv]
        refine close _ 56 _ (by omega) ?_ hx (by omega) ?_
        · simp [Nat.div_div_eq_div_mul]
        · decide
      · have a8 : ¬ (256 : Int) ≤ ((u / 4294967296 / 65536 : Nat) : Int) := by omega
        have hx : u / 4294967296 / 65536 < 256 := by omega
        have g := l8_get _ hx
        simp [a8, hw8 _ hx, hsz, aidx_of hx, bs_data, g, -Int.natCast_ediv]
        refine close _ 48 _ (by omega) ?_ hx (by omega) ?_
        · simp [Nat.div_div_eq_div_mul]
        · decide
    · have a16 : ¬ (65536 : Int) ≤ ((u / 4294967296 : Nat) : Int) := by omega
      simp [a16, -Int.natCast_ediv]
      by_cases q8 : 256 ≤ u / 4294967296
      · have a8 : (256 : Int) ≤ ((u / 4294967296 : Nat) : Int) := by omega
        have hx : u / 4294967296 / 256 < 256 := by omega
        have g := l8_get _ hx
        simp [a8, f8, m8, hw8 _ hx, hsz, aidx_of hx, bs_data, g, -Int.natCast_ediv]
        refine close _ 40 _ (by omega) ?_ hx (by omega) ?_
        · simp [Nat.div_div_eq_div_mul]
        · decide
      · have a8 : ¬ (256 : Int) ≤ ((u / 4294967296 : Nat) : Int) := by omega
        have hx : u / 4294967296 < 256 := by omega
        have g := l8_get _ hx
        simp [a8, hw8 _ hx, hsz, aidx_of hx, bs_data, g, -Int.natCast_ediv]
        refine close _ 32 _ (by omega) ?_ hx (by omega) ?_
        · simp [Nat.div_div_eq_div_mul]
        · decide
  · have a32 : ¬ (4294967296 : Int) ≤ (u : Int) := by omega
    simp [a32, -Int.natCast_ediv]
    by_cases q16 : 65536 ≤ u
    · have a16 : (65536 : Int) ≤ (u : Int) := by omega
      simp [a16, f16, m16, -Int.natCast_ediv]
      by_cases q8 : 256 ≤ u / 65536
      · have a8 : (256 : Int) ≤ ((u / 65536 : Nat) : Int) := by omega
        have hx : u / 65536 / 256 < 256 := by omega
        have g := l8_get _ hx
        simp [a8, f8, m8, hw8 _ hx, hsz, aidx_of hx, bs_data, g, -Int.natCast_ediv]
        refine close _ 24 _ (by omega) ?_ hx (by omega) ?_
        · simp [Nat.div_div_eq_div_mul]
        · decide
      · have a8 : ¬ (256 : Int) ≤ ((u / 65536 : Nat) : Int) := by omega
        have hx : u / 65536 < 256 := by omega
        have g := l8_get _ hx
        simp [a8, hw8 _ hx, hsz, aidx_of hx, bs_data, g, -Int.natCast_ediv]
        refine close _ 16 _ (by omega) ?_ hx (by omega) ?_
        · simp [Nat.div_div_eq_div_mul]
        · decide
    · have a16 : ¬ (65536 : Int) ≤ (u : Int) := by omega
      simp [a16, -Int.natCast_ediv]
      by_cases q8 : 256 ≤ u
      · have a8 : (256 : Int) ≤ (u : Int) := by omega
        have hx : u / 256 < 256 := by omega
        have g := l8_get _ hx
        simp [a8, f8, m8, hw8 _ hx, hsz, aidx_of hx, bs_data, g, -Int.natCast_ediv]
        refine close _ 8 _ (by omega) ?_ hx (by omega) ?_
        · simp [Nat.div_div_eq_div_mul]
        · decide
      · have a8 : ¬ (256 : Int) ≤ (u : Int) := by omega
        have hx : u < 256 := by omega
        have g := l8_get _ hx
        simp [a8, hw8 _ hx, hsz, aidx_of hx, bs_data, g, -Int.natCast_ediv]
        obtain ⟨L, h1, h2⟩ := close u 0 0 (by omega) (by simp) hx (by omega) rfl
        rw [Int.zero_add] at h1
        exact ⟨L, h1, h2⟩
theorem pow_facts (L : Nat) (h : L ≤ 64) (h1 : 1 ≤ L) : L * 78913 / 262144 ≤ 19 ∧ 2 ^ L ≤ 10 ^ (L * 78913 / 262144 + 1) ∧ (L * 78913 / 262144 = 0 ∨ 10 ^ (L * 78913 / 262144 - 1) ≤ 2 ^ (L - 1)) := by
  have : ((List.range 65).all fun L => decide (L = 0) || (decide (L * 78913 / 262144 ≤ 19) && decide (2 ^ L ≤ 10 ^ (L * 78913 / 262144 + 1)) && (decide (L * 78913 / 262144 = 0) || decide (10 ^ (L * 78913 / 262144 - 1) ≤ 2 ^ (L - 1))))) = true := by kernel_rfl
  have := List.all_eq_true.1 this L (List.mem_range.2 (by omega))
  simp only [Bool.and_eq_true, Bool.or_eq_true, decide_eq_true_eq] at this
  rcases this with q | ⟨⟨q1, q2⟩, q3⟩
  · omega
  · exact ⟨q1, q2, q3⟩
theorem ndig_bits {u L : Nat} (h : Bits u L) : ndig u = L * 78913 / 262144 + (if 10 ^ (L * 78913 / 262144) ≤ u then 1 else 0) := by
  obtain ⟨h1, h2, h3, h4⟩ := h
  obtain ⟨q1, q2, q3⟩ := pow_facts L h2 h1
  generalize L * 78913 / 262144 = t at *
  have hp : 0 < 2 ^ (L - 1) := Nat.pow_pos (by omega)
  split
  · rename_i hle
    exact ndig_eq (by omega) (.inl hle) (by omega)
  · rename_i hle
    have ht0 : t ≠ 0 := by
      intro q
      subst q
      simp at hle
      omega
    obtain ⟨t, rfl⟩ : ∃ k, t = k + 1 := ⟨t - 1, by omega⟩
    have h5 : 10 ^ t ≤ 2 ^ (L - 1) := by
      rcases q3 with q | q
      · omega
      · exact q
    exact ndig_eq (by omega) (.inl (by omega)) (by omega)
theorem numDigits_ok (u : Nat) (hu : u < 2 ^ 64) (h0 : 0 < u) (h : Heap) : ACalls Tryz.prog 158 [.int .u64 u] h fun v h' => v = .int .i64 (ndig u : Nat) ∧ h' = h := by
  refine acalls_of mix Tryz.func158 k158 n158 (by simp) fun hcl hb => ?_
  simp [c158]
  refine (len64_ok u hu h0 h).mono ?_
  rintro _ h9 ⟨⟨L, rfl, hB⟩, e⟩
  rw [e]; clear e h9
  have hnd := ndig_bits hB
  obtain ⟨g1, g2, _, _⟩ := hB
  obtain ⟨q1, _, _⟩ := pow_facts L g2 g1
  simp
  refine (log10_ok L g2 h).mono ?_
  rintro _ h9 ⟨rfl, e⟩
  rw [e]; clear e h9
  generalize L * 78913 / 262144 = t at *
  have hg := gf.pow
  have hix : aidx (.int .i64 (t : Int)) 20 = some t := aidx_of (by omega)
  have hgt : ((List.range 20).map fun k => Value.int .u64 ((10 ^ k : Nat) : Int))[t]? = some (.int .u64 ((10 ^ t : Nat) : Int)) := by
    rw [List.getElem?_map, List.getElem?_range (by omega)]
    rfl
  have hcc : ((10 ^ t : Nat) : Int) ≤ (u : Int) ↔ 10 ^ t ≤ u := by omega
  generalize hP : 10 ^ t = P at *
  generalize ((List.range 20).map fun k => Value.int .u64 ((10 ^ k : Nat) : Int)) = tb at *
  simp [hix, hg, apart, hgt, -Int.natCast_pow]
  refine (bool2_ok _ h).mono ?_
  rintro _ h9 ⟨rfl, e⟩
  rw [e]; clear e h9
  rw [hnd]
  by_cases hle : P ≤ u
  · simp [hle]
    rw [IntWalk.i64_in _ (by omega)]
  · simp [hle]
    rw [IntWalk.i64_in _ (by omega)]

def smB : ByteArray := ⟨⟨[48, 48, 48, 49, 48, 50, 48, 51, 48, 52, 48, 53, 48, 54, 48, 55, 48, 56, 48, 57, 49, 48, 49, 49, 49, 50, 49, 51, 49, 52, 49, 53, 49, 54, 49, 55, 49, 56, 49, 57, 50, 48, 50, 49, 50, 50, 50, 51, 50, 52, 50, 53, 50, 54, 50, 55, 50, 56, 50, 57, 51, 48, 51, 49, 51, 50, 51, 51, 51, 52, 51, 53, 51, 54, 51, 55, 51, 56, 51, 57, 52, 48, 52, 49, 52, 50, 52, 51, 52, 52, 52, 53, 52, 54, 52, 55, 52, 56, 52, 57, 53, 48, 53, 49, 53, 50, 53, 51, 53, 52, 53, 53, 53, 54, 53, 55, 53, 56, 53, 57, 54, 48, 54, 49, 54, 50, 54, 51, 54, 52, 54, 53, 54, 54, 54, 55, 54, 56, 54, 57, 55, 48, 55, 49, 55, 50, 55, 51, 55, 52, 55, 53, 55, 54, 55, 55, 55, 56, 55, 57, 56, 48, 56, 49, 56, 50, 56, 51, 56, 52, 56, 53, 56, 54, 56, 55, 56, 56, 56, 57, 57, 48, 57, 49, 57, 50, 57, 51, 57, 52, 57, 53, 57, 54, 57, 55, 57, 56, 57, 57]⟩⟩
def c159_0 : AC := .seq (.seq (.ops [⟨some 19,none,.mv (.tmp 4)⟩,⟨some 20,none,.bin .geq (.tmp 19) (.const (.int .i64 8))⟩]) (.cond (.tmp 20) .skip (.exit 0))) (.block 1 (.seq (.ops [⟨some 21,none,.mv (.tmp 1)⟩,⟨some 22,none,.bin .rem (.tmp 21) (.const (.int .u64 100000000))⟩,⟨some 23,none,.toInt .u32 (.tmp 22)⟩,⟨some 5,none,.mv (.tmp 23)⟩]) (.seq (.ops [⟨some 24,none,.mv (.tmp 1)⟩,⟨some 25,none,.bin .quo (.tmp 24) (.const (.int .u64 100000000))⟩,⟨some 1,none,.mv (.tmp 25)⟩]) (.seq (.ops [⟨some 26,none,.mv (.tmp 5)⟩,⟨some 27,none,.bin .quo (.tmp 26) (.const (.int .u32 10000))⟩,⟨some 28,none,.mv (.tmp 5)⟩,⟨some 29,none,.bin .rem (.tmp 28) (.const (.int .u32 10000))⟩,⟨some 6,none,.mv (.tmp 27)⟩,⟨some 7,none,.mv (.tmp 29)⟩]) (.seq (.ops [⟨some 30,none,.mv (.tmp 7)⟩,⟨some 31,none,.bin .quo (.tmp 30) (.const (.int .u32 100))⟩,⟨some 32,none,.bin .mul (.tmp 31) (.const (.int .u32 2))⟩,⟨some 33,none,.mv (.tmp 7)⟩,⟨some 34,none,.bin .rem (.tmp 33) (.const (.int .u32 100))⟩,⟨some 35,none,.bin .mul (.tmp 34) (.const (.int .u32 2))⟩,⟨some 8,none,.mv (.tmp 32)⟩,⟨some 9,none,.mv (.tmp 35)⟩]) (.seq (.ops [⟨some 36,none,.mv (.tmp 6)⟩,⟨some 37,none,.bin .quo (.tmp 36) (.const (.int .u32 100))⟩,⟨some 38,none,.bin .mul (.tmp 37) (.const (.int .u32 2))⟩,⟨some 39,none,.mv (.tmp 6)⟩,⟨some 40,none,.bin .rem (.tmp 39) (.const (.int .u32 100))⟩,⟨some 41,none,.bin .mul (.tmp 40) (.const (.int .u32 2))⟩,⟨some 10,none,.mv (.tmp 38)⟩,⟨some 11,none,.mv (.tmp 41)⟩]) (.seq (.draw [([⟨some 42,none,.mv (.tmp 0)⟩,⟨some 43,none,.mv (.tmp 4)⟩,⟨some 44,none,.bin .sub (.tmp 43) (.const (.int .i64 1))⟩,⟨some 45,none,.mv (.tmp 0)⟩,⟨some 46,none,.mv (.tmp 4)⟩,⟨some 47,none,.bin .sub (.tmp 46) (.const (.int .i64 2))⟩,⟨some 48,none,.mv (.tmp 9)⟩,⟨some 49,none,.bin .add (.tmp 48) (.const (.int .u32 1))⟩,⟨some 50,none,.iStr (.const (.string smB)) (.tmp 49)⟩,⟨some 51,none,.mv (.tmp 9)⟩,⟨some 52,none,.iStr (.const (.string smB)) (.tmp 51)⟩,⟨some 53,none,.iAddrS 1 (.tmp 42) (.tmp 44)⟩],[⟨none,none,.store 1 (.tmp 53) (.tmp 50)⟩],[]),([⟨some 54,none,.iAddrS 1 (.tmp 45) (.tmp 47)⟩],[⟨none,none,.store 1 (.tmp 54) (.tmp 52)⟩],[]),([],[],[])]) (.seq (.draw [([⟨some 55,none,.mv (.tmp 0)⟩,⟨some 56,none,.mv (.tmp 4)⟩,⟨some 57,none,.bin .sub (.tmp 56) (.const (.int .i64 3))⟩,⟨some 58,none,.mv (.tmp 0)⟩,⟨some 59,none,.mv (.tmp 4)⟩,⟨some 60,none,.bin .sub (.tmp 59) (.const (.int .i64 4))⟩,⟨some 61,none,.mv (.tmp 8)⟩,⟨some 62,none,.bin .add (.tmp 61) (.const (.int .u32 1))⟩,⟨some 63,none,.iStr (.const (.string smB)) (.tmp 62)⟩,⟨some 64,none,.mv (.tmp 8)⟩,⟨some 65,none,.iStr (.const (.string smB)) (.tmp 64)⟩,⟨some 66,none,.iAddrS 1 (.tmp 55) (.tmp 57)⟩],[⟨none,none,.store 1 (.tmp 66) (.tmp 63)⟩],[]),([⟨some 67,none,.iAddrS 1 (.tmp 58) (.tmp 60)⟩],[⟨none,none,.store 1 (.tmp 67) (.tmp 65)⟩],[]),([],[],[])]) (.seq (.draw [([⟨some 68,none,.mv (.tmp 0)⟩,⟨some 69,none,.mv (.tmp 4)⟩,⟨some 70,none,.bin .sub (.tmp 69) (.const (.int .i64 5))⟩,⟨some 71,none,.mv (.tmp 0)⟩,⟨some 72,none,.mv (.tmp 4)⟩,⟨some 73,none,.bin .sub (.tmp 72) (.const (.int .i64 6))⟩,⟨some 74,none,.mv (.tmp 11)⟩,⟨some 75,none,.bin .add (.tmp 74) (.const (.int .u32 1))⟩,⟨some 76,none,.iStr (.const (.string smB)) (.tmp 75)⟩,⟨some 77,none,.mv (.tmp 11)⟩,⟨some 78,none,.iStr (.const (.string smB)) (.tmp 77)⟩,⟨some 79,none,.iAddrS 1 (.tmp 68) (.tmp 70)⟩],[⟨none,none,.store 1 (.tmp 79) (.tmp 76)⟩],[]),([⟨some 80,none,.iAddrS 1 (.tmp 71) (.tmp 73)⟩],[⟨none,none,.store 1 (.tmp 80) (.tmp 78)⟩],[]),([],[],[])]) (.seq (.draw [([⟨some 81,none,.mv (.tmp 0)⟩,⟨some 82,none,.mv (.tmp 4)⟩,⟨some 83,none,.bin .sub (.tmp 82) (.const (.int .i64 7))⟩,⟨some 84,none,.mv (.tmp 0)⟩,⟨some 85,none,.mv (.tmp 4)⟩,⟨some 86,none,.bin .sub (.tmp 85) (.const (.int .i64 8))⟩,⟨some 87,none,.mv (.tmp 10)⟩,⟨some 88,none,.bin .add (.tmp 87) (.const (.int .u32 1))⟩,⟨some 89,none,.iStr (.const (.string smB)) (.tmp 88)⟩,⟨some 90,none,.mv (.tmp 10)⟩,⟨some 91,none,.iStr (.const (.string smB)) (.tmp 90)⟩,⟨some 92,none,.iAddrS 1 (.tmp 81) (.tmp 83)⟩],[⟨none,none,.store 1 (.tmp 92) (.tmp 89)⟩],[]),([⟨some 93,none,.iAddrS 1 (.tmp 84) (.tmp 86)⟩],[⟨none,none,.store 1 (.tmp 93) (.tmp 91)⟩],[]),([],[],[])]) (.ops [⟨some 94,none,.mv (.tmp 4)⟩,⟨some 95,none,.bin .sub (.tmp 94) (.const (.int .i64 8))⟩,⟨some 4,none,.mv (.tmp 95)⟩])))))))))))
def c159 : AC := .seq (.ops [⟨some 17,none,.mv (.tmp 0)⟩,⟨some 18,none,.lenS false (.tmp 17)⟩,⟨some 4,none,.mv (.tmp 18)⟩]) (.seq (.block 0 (.loop c159_0)) (.seq (.ops [⟨some 96,none,.mv (.tmp 1)⟩,⟨some 97,none,.toInt .u32 (.tmp 96)⟩,⟨some 12,none,.mv (.tmp 97)⟩]) (.seq (.seq (.ops [⟨some 98,none,.mv (.tmp 4)⟩,⟨some 99,none,.bin .geq (.tmp 98) (.const (.int .i64 4))⟩]) (.cond (.tmp 99) (.seq (.ops [⟨some 100,none,.mv (.tmp 12)⟩,⟨some 101,none,.bin .rem (.tmp 100) (.const (.int .u32 10000))⟩,⟨some 13,none,.mv (.tmp 101)⟩]) (.seq (.ops [⟨some 102,none,.mv (.tmp 12)⟩,⟨some 103,none,.bin .quo (.tmp 102) (.const (.int .u32 10000))⟩,⟨some 12,none,.mv (.tmp 103)⟩]) (.seq (.ops [⟨some 104,none,.mv (.tmp 13)⟩,⟨some 105,none,.bin .quo (.tmp 104) (.const (.int .u32 100))⟩,⟨some 106,none,.bin .mul (.tmp 105) (.const (.int .u32 2))⟩,⟨some 107,none,.mv (.tmp 13)⟩,⟨some 108,none,.bin .rem (.tmp 107) (.const (.int .u32 100))⟩,⟨some 109,none,.bin .mul (.tmp 108) (.const (.int .u32 2))⟩,⟨some 14,none,.mv (.tmp 106)⟩,⟨some 15,none,.mv (.tmp 109)⟩]) (.seq (.draw [([⟨some 110,none,.mv (.tmp 0)⟩,⟨some 111,none,.mv (.tmp 4)⟩,⟨some 112,none,.bin .sub (.tmp 111) (.const (.int .i64 1))⟩,⟨some 113,none,.mv (.tmp 0)⟩,⟨some 114,none,.mv (.tmp 4)⟩,⟨some 115,none,.bin .sub (.tmp 114) (.const (.int .i64 2))⟩,⟨some 116,none,.mv (.tmp 15)⟩,⟨some 117,none,.bin .add (.tmp 116) (.const (.int .u32 1))⟩,⟨some 118,none,.iStr (.const (.string smB)) (.tmp 117)⟩,⟨some 119,none,.mv (.tmp 15)⟩,⟨some 120,none,.iStr (.const (.string smB)) (.tmp 119)⟩,⟨some 121,none,.iAddrS 1 (.tmp 110) (.tmp 112)⟩],[⟨none,none,.store 1 (.tmp 121) (.tmp 118)⟩],[]),([⟨some 122,none,.iAddrS 1 (.tmp 113) (.tmp 115)⟩],[⟨none,none,.store 1 (.tmp 122) (.tmp 120)⟩],[]),([],[],[])]) (.seq (.draw [([⟨some 123,none,.mv (.tmp 0)⟩,⟨some 124,none,.mv (.tmp 4)⟩,⟨some 125,none,.bin .sub (.tmp 124) (.const (.int .i64 3))⟩,⟨some 126,none,.mv (.tmp 0)⟩,⟨some 127,none,.mv (.tmp 4)⟩,⟨some 128,none,.bin .sub (.tmp 127) (.const (.int .i64 4))⟩,⟨some 129,none,.mv (.tmp 14)⟩,⟨some 130,none,.bin .add (.tmp 129) (.const (.int .u32 1))⟩,⟨some 131,none,.iStr (.const (.string smB)) (.tmp 130)⟩,⟨some 132,none,.mv (.tmp 14)⟩,⟨some 133,none,.iStr (.const (.string smB)) (.tmp 132)⟩,⟨some 134,none,.iAddrS 1 (.tmp 123) (.tmp 125)⟩],[⟨none,none,.store 1 (.tmp 134) (.tmp 131)⟩],[]),([⟨some 135,none,.iAddrS 1 (.tmp 126) (.tmp 128)⟩],[⟨none,none,.store 1 (.tmp 135) (.tmp 133)⟩],[]),([],[],[])]) (.ops [⟨some 136,none,.mv (.tmp 4)⟩,⟨some 137,none,.bin .sub (.tmp 136) (.const (.int .i64 4))⟩,⟨some 4,none,.mv (.tmp 137)⟩])))))) .skip)) (.seq (.seq (.ops [⟨some 138,none,.mv (.tmp 4)⟩,⟨some 139,none,.bin .geq (.tmp 138) (.const (.int .i64 2))⟩]) (.cond (.tmp 139) (.seq (.ops [⟨some 140,none,.mv (.tmp 12)⟩,⟨some 141,none,.bin .rem (.tmp 140) (.const (.int .u32 100))⟩,⟨some 142,none,.bin .mul (.tmp 141) (.const (.int .u32 2))⟩,⟨some 16,none,.mv (.tmp 142)⟩]) (.seq (.ops [⟨some 143,none,.mv (.tmp 12)⟩,⟨some 144,none,.bin .quo (.tmp 143) (.const (.int .u32 100))⟩,⟨some 12,none,.mv (.tmp 144)⟩]) (.seq (.draw [([⟨some 145,none,.mv (.tmp 0)⟩,⟨some 146,none,.mv (.tmp 4)⟩,⟨some 147,none,.bin .sub (.tmp 146) (.const (.int .i64 1))⟩,⟨some 148,none,.mv (.tmp 0)⟩,⟨some 149,none,.mv (.tmp 4)⟩,⟨some 150,none,.bin .sub (.tmp 149) (.const (.int .i64 2))⟩,⟨some 151,none,.mv (.tmp 16)⟩,⟨some 152,none,.bin .add (.tmp 151) (.const (.int .u32 1))⟩,⟨some 153,none,.iStr (.const (.string smB)) (.tmp 152)⟩,⟨some 154,none,.mv (.tmp 16)⟩,⟨some 155,none,.iStr (.const (.string smB)) (.tmp 154)⟩,⟨some 156,none,.iAddrS 1 (.tmp 145) (.tmp 147)⟩],[⟨none,none,.store 1 (.tmp 156) (.tmp 153)⟩],[]),([⟨some 157,none,.iAddrS 1 (.tmp 148) (.tmp 150)⟩],[⟨none,none,.store 1 (.tmp 157) (.tmp 155)⟩],[]),([],[],[])]) (.ops [⟨some 158,none,.mv (.tmp 4)⟩,⟨some 159,none,.bin .sub (.tmp 158) (.const (.int .i64 2))⟩,⟨some 4,none,.mv (.tmp 159)⟩])))) .skip)) (.seq (.ops [⟨some 160,none,.mv (.tmp 4)⟩,⟨some 161,none,.bin .gtr (.tmp 160) (.const (.int .i64 0))⟩]) (.cond (.tmp 161) (.ops [⟨some 162,none,.mv (.tmp 0)⟩,⟨some 163,none,.mv (.tmp 12)⟩,⟨some 164,none,.bin .add (.const (.int .u32 48)) (.tmp 163)⟩,⟨some 165,none,.toInt .u8 (.tmp 164)⟩,⟨some 166,none,.iAddrS 1 (.tmp 162) (.const (.int .i64 0))⟩,⟨none,none,.store 1 (.tmp 166) (.tmp 165)⟩]) .skip))))))
theorem k159 : compF Tryz.prog Tryz.f159 = some (c159, []) := by kernel_rfl
theorem n159 : Tryz.f159.ntmps = 167 := by kernel_rfl
theorem smB_eq : smB = bs smalls := by
  have : (bs smalls).data.toList = smB.data.toList := by rw [bs_data]; kernel_rfl
  rw [bs_of smB, ← this, bs_data]
theorem sm_get (x : Nat) (h : x < 100) : smalls[2 * x]? = some (UInt8.ofNat (48 + x / 10)) ∧ smalls[2 * x + 1]? = some (UInt8.ofNat (48 + x % 10)) := by
  have : ((List.range 100).all fun j => decide (smalls[2 * j]? = some (UInt8.ofNat (48 + j / 10))) && decide (smalls[2 * j + 1]? = some (UInt8.ofNat (48 + j % 10)))) = true := by kernel_rfl
  have := List.all_eq_true.1 this x (List.mem_range.2 h)
  simpa only [Bool.and_eq_true, decide_eq_true_eq] using this
theorem put_back (C S : List Value) (k : Nat) (v : Value) (h : k + 1 ≤ C.length) : aput (C.take (k + 1) ++ S) k [v] = C.take k ++ v :: S := by
  have hl : (C.take k).length = k := by rw [List.length_take]; omega
  have e : C.take (k + 1) = C.take k ++ [C[k]] := List.take_succ_eq_append_getElem (by omega)
  rw [e, List.append_assoc, List.singleton_append]
  have := put_nth (C.take k) v C[k] S
  rwa [hl] at this
theorem digN2 (k u : Nat) : digN (k + 2) u = digN k (u / 100) ++ [UInt8.ofNat (48 + u % 100 / 10), UInt8.ofNat (48 + u % 100 % 10)] := by
  rw [digN, digN, Nat.div_div_eq_div_mul, List.append_assoc]
  have e1 : u / 10 % 10 = u % 100 / 10 := by omega
  have e2 : u % 10 = u % 100 % 10 := by omega
  rw [e1, e2]
  rfl
def KK (C : List Value) (n : Nat) (S : List Value) : List Value := C.take n ++ S
theorem KK_put (C S : List Value) (k : Nat) (v : Value) (h : k + 1 ≤ C.length) : aput (KK C (k + 1) S) k [v] = KK C k (v :: S) := put_back C S k v h
theorem KK_len (C S : List Value) (k : Nat) (h : k + 1 ≤ C.length) : k + 1 ≤ (KK C (k + 1) S).length := by unfold KK; rw [List.length_append, List.length_take]; omega
theorem cond_join {P : Program} {n0 : Nat} {Q : AQ} {f : AF} {h : Heap} {a b : AC} {c : Bool} (J : AF → Heap → Prop) (h1 : c = true → awp P n0 a (fun e f h => e = .normal ∧ J f h) f h) (h2 : c = false → awp P n0 b (fun e f h => e = .normal ∧ J f h) f h)
    (h3 : ∀ f h, J f h → Q .normal f h) : condK P n0 a b Q f h (.bool c) :=
  ⟨fun e => awp_mono (fun _ f h ⟨q, j⟩ => q ▸ h3 f h j) (h1 e), fun e => awp_mono (fun _ f h ⟨q, j⟩ => q ▸ h3 f h j) (h2 e)⟩
theorem tmodN (a b : Nat) : (a : Int).tmod (b : Int) = ((a % b : Nat) : Int) := rfl
theorem u32w (n : Nat) (h : n < 4294967296) : IntKind.u32.wrap (n : Int) = (n : Int) := by unfold IntKind.wrap; simp [IntKind.bits, IntKind.signed]; omega
theorem u64w (n : Nat) (h : n < 18446744073709551616) : IntKind.u64.wrap (n : Int) = (n : Int) := by unfold IntKind.wrap; simp [IntKind.bits, IntKind.signed]; omega
theorem u32m (n : Nat) (h : n < 1000) : IntKind.u32.wrap ((n : Int) * 2) = ((2 * n : Nat) : Int) := by have := u32w (2 * n) (by omega); rw [show (n : Int) * 2 = ((2 * n : Nat) : Int) by omega]; exact this
theorem u32p (n : Nat) (h : n < 1000) : IntKind.u32.wrap (((2 * n : Nat) : Int) + 1) = ((2 * n + 1 : Nat) : Int) := by have := u32w (2 * n + 1) (by omega); rw [show ((2 * n : Nat) : Int) + 1 = ((2 * n + 1 : Nat) : Int) by omega]; exact this
theorem sm_lo (x : Nat) (h : x < 100) : (bs smalls).data[2 * x + 1]? = some (UInt8.ofNat (48 + x % 10)) := by
  have := (sm_get x h).2
  rw [← bs_data smalls] at this
  simpa using this
theorem sm_hi (x : Nat) (h : x < 100) : (bs smalls).data[2 * x]? = some (UInt8.ofNat (48 + x / 10)) := by
  have := (sm_get x h).1
  rw [← bs_data smalls] at this
  simpa using this
structure FS where
  nd : Nat
  u : Nat
  S : List Value
def FBJ (h : Heap) (b o nd cap U : Nat) (C : List Value) (md : BMode) (e : Nat) (mx m : Nat) (f : AF) (H : Heap) : Prop := ∃ (m1 x1 : Nat) (S1 : List Value), m1 ≤ mx ∧ m1 ≤ m ∧ f 0 = .slice (some ⟨b, o, none⟩) nd cap ∧ f 12 = .int .u32 x1 ∧ f 4 = .int .i64 m1 ∧ x1 < 10 ^ m1 ∧ x1 < 10000000 ∧ (∀ v ∈ S1, ∃ k n, v = Value.int k n) ∧ ubs (digN m1 x1) ++ S1 = ubs (digN nd U) ++ C.drop (o + nd) ∧ H = h.set b (.cells (KK C (o + m1) S1) md e)
set_option maxHeartbeats 2000000 in
theorem fb10_ok (b o nd cap U : Nat) (C : List Value) (md : BMode) (e : Nat) (h : Heap) (hcell : h.cellsOf b = some (C, md, e)) (hmd : md ≠ .ro) (hlen : o + nd ≤ C.length) (hnd : nd ≤ 20) (hU : U < 10 ^ nd) (hU64 : U < 2 ^ 64) (hbel : ∀ v ∈ C, ∃ k n, v = Value.int k n) :
    ACalls Tryz.prog 159 [.slice (some ⟨b, o, none⟩) nd cap, .int .u64 U] h fun v h' => v = .tuple #[] ∧ h' = h.set b (.cells (C.take o ++ (ubs (digN nd U) ++ C.drop (o + nd))) md e) := by
  refine acalls_of mix Tryz.func159 k159 n159 (by simp) fun hcl hb => ?_
  have hbn := cellsOf_lt hcl hcell
  have hmd' : (md = BMode.ro) = False := by simp [hmd]
  have hCl : ∀ k S, (∀ v ∈ S, ∃ k n, v = Value.int k n) → (h.set b (.cells (KK C k S) md e)).Closed := fun k S hS => closed_set hcl hbn fun v hv => by
    obtain ⟨k, n, rfl⟩ : ∃ k n, v = Value.int k n := by
      rcases List.mem_append.1 hv with hv | hv
      · exact hbel v (List.mem_of_mem_take hv)
      · exact hS v hv
    exact .int
  simp [c159]
  refine awp_loop_of (α := FS) (fun z => z.nd ≤ nd ∧ z.u < 10 ^ z.nd ∧ z.u < 2 ^ 64 ∧ (∀ v ∈ z.S, ∃ k n, v = Value.int k n) ∧ ubs (digN z.nd z.u) ++ z.S = ubs (digN nd U) ++ C.drop (o + nd))
    (fun z => [(0, .slice (some ⟨b, o, none⟩) nd cap), (1, .int .u64 z.u), (4, .int .i64 z.nd)])
    (fun z => h.set b (.cells (KK C (o + z.nd) z.S) md e)) (fun z => z.nd) ⟨nd, U, C.drop (o + nd)⟩
    ⟨Nat.le_refl _, hU, hU64, fun v hv => hbel v (List.mem_of_mem_drop hv), rfl⟩ ?_ (by simp; exact ⟨vb_slice (by simpa using hbn), .int, .int⟩) ?_
  · dsimp only
    unfold KK
    rw [List.take_append_drop, set_same (m_of_cells hcell)]
    exact Heap.Sub.refl hcl
  rintro ⟨m, u, S⟩ ⟨hm, hu, hu64, hS, hdig⟩
  dsimp only at hm hu hu64 hS hdig ⊢
  by_cases h8 : 8 ≤ m
  · obtain ⟨q, rfl⟩ : ∃ q, m = q + 8 := ⟨m - 8, by omega⟩
    have h8' : (8 : Int) ≤ ((q + 8 : Nat) : Int) := by omega
    have e1 : (u : Int).tmod 100000000 = ((u % 100000000 : Nat) : Int) := tmodN u 100000000
    have e2 : (u : Int).tdiv 100000000 = ((u / 100000000 : Nat) : Int) := tdivN u 100000000
    have e3 := u64w (u / 100000000) (by omega)
    have e4 := u32w (u % 100000000) (by omega)
    have e5 : ((u % 100000000 : Nat) : Int).tdiv 10000 = ((u % 100000000 / 10000 : Nat) : Int) := tdivN _ 10000
    have e6 : ((u % 100000000 : Nat) : Int).tmod 10000 = ((u % 100000000 % 10000 : Nat) : Int) := tmodN _ 10000
    have e7 := u32w (u % 100000000 / 10000) (by omega)
    have e8 : ((u % 100000000 / 10000 : Nat) : Int).tdiv 100 = ((u % 100000000 / 10000 / 100 : Nat) : Int) := tdivN _ 100
    have e9 : ((u % 100000000 / 10000 : Nat) : Int).tmod 100 = ((u % 100000000 / 10000 % 100 : Nat) : Int) := tmodN _ 100
    have f1 : ((u % 100000000 % 10000 : Nat) : Int).tdiv 100 = ((u % 100000000 % 10000 / 100 : Nat) : Int) := tdivN _ 100
    have f2 : ((u % 100000000 % 10000 : Nat) : Int).tmod 100 = ((u % 100000000 % 10000 % 100 : Nat) : Int) := tmodN _ 100
    have f3 := u32w (u % 100000000 / 10000 / 100) (by omega)
    have f4 := u32w (u % 100000000 % 10000 / 100) (by omega)
    have yy : u % 100000000 % 10000 = u % 10000 := by omega
    have f5 : ((u % 10000 : Nat) : Int).tdiv 100 = ((u % 10000 / 100 : Nat) : Int) := tdivN _ 100
    have f6 : ((u % 10000 : Nat) : Int).tmod 100 = ((u % 10000 % 100 : Nat) : Int) := tmodN _ 100
    have y5 : u % 10000 / 100 = u / 100 % 100 := by omega
    have y6 : u % 10000 % 100 = u % 100 := by omega
    have y0 : u % 100000000 % 10000 % 100 = u % 100 := by omega
    have y1 : u % 100000000 % 10000 / 100 = u / 100 % 100 := by omega
    have y2 : u % 100000000 / 10000 % 100 = u / 10000 % 100 := by omega
    have y3 : u % 100000000 / 10000 / 100 = u / 1000000 % 100 := by omega
    have b0 : u % 100 < 100 := by omega
    have b1 : u / 100 % 100 < 100 := by omega
    have b2 : u / 10000 % 100 < 100 := by omega
    have b3 : u / 1000000 % 100 < 100 := by omega
    rw [y3] at e8 f3
    rw [y2] at e9
    rw [y1] at f1 f4
    rw [y0] at f2
    rw [y5] at f5
    rw [y6] at f6
    have hdd : digN (q + 8) u = digN q (u / 100000000) ++ ([UInt8.ofNat (48 + u / 1000000 % 100 / 10), UInt8.ofNat (48 + u / 1000000 % 100 % 10)] ++ ([UInt8.ofNat (48 + u / 10000 % 100 / 10), UInt8.ofNat (48 + u / 10000 % 100 % 10)] ++ ([UInt8.ofNat (48 + u / 100 % 100 / 10), UInt8.ofNat (48 + u / 100 % 100 % 10)] ++ [UInt8.ofNat (48 + u % 100 / 10), UInt8.ofNat (48 + u % 100 % 10)]))) := by
      rw [show q + 8 = q + 6 + 2 by omega, digN2, show q + 6 = q + 4 + 2 by omega, digN2, show q + 4 = q + 2 + 2 by omega, digN2, digN2]
      simp only [Nat.div_div_eq_div_mul, List.append_assoc]
    have hq8 : q + 8 ≤ nd := hm
    have hpq : u / 100000000 < 10 ^ q := by rw [Nat.pow_add] at hu; omega
    generalize u / 1000000 % 100 = X3 at *
    generalize u / 10000 % 100 = X2 at *
    generalize u / 100 % 100 = X1 at *
    generalize u % 100 = X0 at *
    have m0 := u32m X0 (by omega)
    have a0 := u32p X0 (by omega)
    have g0 : aidx (.int .u32 ((2 * X0 : Nat) : Int)) 200 = some (2 * X0) := aidx_of (by omega)
    have h0 : aidx (.int .u32 ((2 * X0 + 1 : Nat) : Int)) 200 = some (2 * X0 + 1) := aidx_of (by omega)
    have s0 := sm_lo X0 (by omega)
    have z0 := sm_hi X0 (by omega)
    have m1 := u32m X1 (by omega)
    have a1 := u32p X1 (by omega)
    have g1 : aidx (.int .u32 ((2 * X1 : Nat) : Int)) 200 = some (2 * X1) := aidx_of (by omega)
    have h1 : aidx (.int .u32 ((2 * X1 + 1 : Nat) : Int)) 200 = some (2 * X1 + 1) := aidx_of (by omega)
    have s1 := sm_lo X1 (by omega)
    have z1 := sm_hi X1 (by omega)
    have m2 := u32m X2 (by omega)
    have a2 := u32p X2 (by omega)
    have g2 : aidx (.int .u32 ((2 * X2 : Nat) : Int)) 200 = some (2 * X2) := aidx_of (by omega)
    have h2 : aidx (.int .u32 ((2 * X2 + 1 : Nat) : Int)) 200 = some (2 * X2 + 1) := aidx_of (by omega)
    have s2 := sm_lo X2 (by omega)
    have z2 := sm_hi X2 (by omega)
    have m3 := u32m X3 (by omega)
    have a3 := u32p X3 (by omega)
    have g3 : aidx (.int .u32 ((2 * X3 : Nat) : Int)) 200 = some (2 * X3) := aidx_of (by omega)
    have h3 : aidx (.int .u32 ((2 * X3 + 1 : Nat) : Int)) 200 = some (2 * X3 + 1) := aidx_of (by omega)
    have s3 := sm_lo X3 (by omega)
    have z3 := sm_hi X3 (by omega)
    have i1 : IntKind.i64.wrap (((q + 8 : Nat) : Int) - 1) = ((q + 7 : Nat) : Int) := by rw [IntWalk.i64_in _ (by omega)]; omega
    have x1 : aidx (.int .i64 ((q + 7 : Nat) : Int)) nd = some (q + 7) := aidx_of (by omega)
    have p1 : ∀ S v, aput (KK C (o + (q + 8)) S) (o + (q + 7)) [v] = KK C (o + (q + 7)) (v :: S) := fun S v => KK_put C S (o + (q + 7)) v (by omega)
    have l1 : ∀ S, (o + (q + 7) + 1 ≤ (KK C (o + (q + 8)) S).length) = True := fun S => eq_true (KK_len C S (o + (q + 7)) (by omega))
    have i2 : IntKind.i64.wrap (((q + 8 : Nat) : Int) - 2) = ((q + 6 : Nat) : Int) := by rw [IntWalk.i64_in _ (by omega)]; omega
    have x2 : aidx (.int .i64 ((q + 6 : Nat) : Int)) nd = some (q + 6) := aidx_of (by omega)
    have p2 : ∀ S v, aput (KK C (o + (q + 7)) S) (o + (q + 6)) [v] = KK C (o + (q + 6)) (v :: S) := fun S v => KK_put C S (o + (q + 6)) v (by omega)
    have l2 : ∀ S, (o + (q + 6) + 1 ≤ (KK C (o + (q + 7)) S).length) = True := fun S => eq_true (KK_len C S (o + (q + 6)) (by omega))
    have i3 : IntKind.i64.wrap (((q + 8 : Nat) : Int) - 3) = ((q + 5 : Nat) : Int) := by rw [IntWalk.i64_in _ (by omega)]; omega
    have x3 : aidx (.int .i64 ((q + 5 : Nat) : Int)) nd = some (q + 5) := aidx_of (by omega)
    have p3 : ∀ S v, aput (KK C (o + (q + 6)) S) (o + (q + 5)) [v] = KK C (o + (q + 5)) (v :: S) := fun S v => KK_put C S (o + (q + 5)) v (by omega)
    have l3 : ∀ S, (o + (q + 5) + 1 ≤ (KK C (o + (q + 6)) S).length) = True := fun S => eq_true (KK_len C S (o + (q + 5)) (by omega))
    have i4 : IntKind.i64.wrap (((q + 8 : Nat) : Int) - 4) = ((q + 4 : Nat) : Int) := by rw [IntWalk.i64_in _ (by omega)]; omega
    have x4 : aidx (.int .i64 ((q + 4 : Nat) : Int)) nd = some (q + 4) := aidx_of (by omega)
    have p4 : ∀ S v, aput (KK C (o + (q + 5)) S) (o + (q + 4)) [v] = KK C (o + (q + 4)) (v :: S) := fun S v => KK_put C S (o + (q + 4)) v (by omega)
    have l4 : ∀ S, (o + (q + 4) + 1 ≤ (KK C (o + (q + 5)) S).length) = True := fun S => eq_true (KK_len C S (o + (q + 4)) (by omega))
    have i5 : IntKind.i64.wrap (((q + 8 : Nat) : Int) - 5) = ((q + 3 : Nat) : Int) := by rw [IntWalk.i64_in _ (by omega)]; omega
    have x5 : aidx (.int .i64 ((q + 3 : Nat) : Int)) nd = some (q + 3) := aidx_of (by omega)
    have p5 : ∀ S v, aput (KK C (o + (q + 4)) S) (o + (q + 3)) [v] = KK C (o + (q + 3)) (v :: S) := fun S v => KK_put C S (o + (q + 3)) v (by omega)
    have l5 : ∀ S, (o + (q + 3) + 1 ≤ (KK C (o + (q + 4)) S).length) = True := fun S => eq_true (KK_len C S (o + (q + 3)) (by omega))
    have i6 : IntKind.i64.wrap (((q + 8 : Nat) : Int) - 6) = ((q + 2 : Nat) : Int) := by rw [IntWalk.i64_in _ (by omega)]; omega
    have x6 : aidx (.int .i64 ((q + 2 : Nat) : Int)) nd = some (q + 2) := aidx_of (by omega)
    have p6 : ∀ S v, aput (KK C (o + (q + 3)) S) (o + (q + 2)) [v] = KK C (o + (q + 2)) (v :: S) := fun S v => KK_put C S (o + (q + 2)) v (by omega)
    have l6 : ∀ S, (o + (q + 2) + 1 ≤ (KK C (o + (q + 3)) S).length) = True := fun S => eq_true (KK_len C S (o + (q + 2)) (by omega))
    have i7 : IntKind.i64.wrap (((q + 8 : Nat) : Int) - 7) = ((q + 1 : Nat) : Int) := by rw [IntWalk.i64_in _ (by omega)]; omega
    have x7 : aidx (.int .i64 ((q + 1 : Nat) : Int)) nd = some (q + 1) := aidx_of (by omega)
    have p7 : ∀ S v, aput (KK C (o + (q + 2)) S) (o + (q + 1)) [v] = KK C (o + (q + 1)) (v :: S) := fun S v => KK_put C S (o + (q + 1)) v (by omega)
    have l7 : ∀ S, (o + (q + 1) + 1 ≤ (KK C (o + (q + 2)) S).length) = True := fun S => eq_true (KK_len C S (o + (q + 1)) (by omega))
    have x8 : aidx (.int .i64 ((q : Nat) : Int)) nd = some q := aidx_of (by omega)
    have p8 : ∀ S v, aput (KK C (o + (q + 1)) S) (o + q) [v] = KK C (o + q) (v :: S) := fun S v => KK_put C S (o + q) v (by omega)
    have l8 : ∀ S, (o + q + 1 ≤ (KK C (o + (q + 1)) S).length) = True := fun S => eq_true (KK_len C S (o + q) (by omega))
    have hsz : (bs smalls).size = 200 := by rw [bs_size]; kernel_rfl
    have iq : IntKind.i64.wrap (((q + 8 : Nat) : Int) - 8) = ((q : Nat) : Int) := by rw [IntWalk.i64_in _ (by omega)]; omega
    simp [c159_0, h8', e1, e2, e3, e4, e5, e6, e7, e8, e9, f1, f2, f3, f4, f5, f6, yy, smB_eq, hsz, m0, a0, g0, h0, s0, z0, m1, a1, g1, h1, s1, z1, m2, a2, g2, h2, s2, z2, m3, a3, g3, h3, s3, z3, i1, x1, p1, l1, i2, x2, p2, l2, i3, x3, p3, l3, i4, x4, p4, l4, i5, x5, p5, l5, i6, x6, p6, l6, i7, x7, p7, l7, x8, p8, l8, cellsOf_set, set_set, hmd', mcells, iq, -Int.natCast_add, -Int.natCast_mul, -Int.natCast_ediv, -Int.natCast_emod]
    have d8 : ∀ x : Nat, x < 208 → Value.int .u8 (((48 + x) % 256 : Nat) : Int) = eb (UInt8.ofNat (48 + x)) := fun x hx => by
      unfold eb
      rw [UInt8.toNat_ofNat']
    rw [d8 _ (by omega), d8 _ (by omega), d8 _ (by omega), d8 _ (by omega), d8 _ (by omega), d8 _ (by omega), d8 _ (by omega), d8 _ (by omega)]
    have hfin : ∀ z : FS, z = ⟨q, u / 100000000, eb (UInt8.ofNat (48 + X3 / 10)) :: eb (UInt8.ofNat (48 + X3 % 10)) :: eb (UInt8.ofNat (48 + X2 / 10)) :: eb (UInt8.ofNat (48 + X2 % 10)) :: eb (UInt8.ofNat (48 + X1 / 10)) :: eb (UInt8.ofNat (48 + X1 % 10)) :: eb (UInt8.ofNat (48 + X0 / 10)) :: eb (UInt8.ofNat (48 + X0 % 10)) :: S⟩ → True := fun _ _ => trivial
    refine ⟨⟨q, u / 100000000, _⟩, by show q < q + 8; omega, ⟨by show q ≤ nd; omega, hpq, by show u / 100000000 < 2 ^ 64; omega, ?_, ?_⟩, ⟨?_, Nat.le_refl _, fun _ _ e => e, hCl _ _ ?_⟩, vb_slice hbn, ⟨rfl, .int⟩, rfl, .int⟩
    · intro v hv
      simp only [List.mem_cons] at hv
      rcases hv with rfl | rfl | rfl | rfl | rfl | rfl | rfl | rfl | hv
      all_goals first | exact ⟨_, _, rfl⟩ | exact hS v hv
    · show ubs (digN q (u / 100000000)) ++ _ = _
      rw [← hdig, hdd]
      simp only [ubs, List.map_append, List.map_cons, List.map_nil, List.append_assoc, List.cons_append, List.nil_append]
    · exact Nat.le_refl _
    · intro v hv
      simp only [List.mem_cons] at hv
      rcases hv with rfl | rfl | rfl | rfl | rfl | rfl | rfl | rfl | hv
      all_goals first | exact ⟨_, _, rfl⟩ | exact hS v hv
  · have h8' : ¬ (8 : Int) ≤ (m : Int) := by omega
    have hp7 : 10 ^ m ≤ 10 ^ 7 := Nat.pow_le_pow_right (by omega) (by omega)
    have hp7' : (10 : Nat) ^ 7 = 10000000 := rfl
    have eu := u32w u (by omega)
    have hsz : (bs smalls).size = 200 := by rw [bs_size]; kernel_rfl
    have d8 : ∀ x : Nat, x < 208 → Value.int .u8 (((48 + x) % 256 : Nat) : Int) = eb (UInt8.ofNat (48 + x)) := fun x hx => by
      unfold eb
      rw [UInt8.toNat_ofNat']
    simp [c159_0, h8', eu, smB_eq, hsz]
    have J : ∀ (K : Nat), True := fun _ => trivial
    refine cond_join (FBJ h b o nd cap U C md e 3 m) ?_ ?_ ?_
    · intro hcond
      have h4 : 4 ≤ m := by have := of_decide_eq_true hcond; omega
      clear hcond
      obtain ⟨q, rfl⟩ : ∃ q, m = q + 4 := ⟨m - 4, by omega⟩
      have e1 : (u : Int).tmod 10000 = ((u % 10000 : Nat) : Int) := tmodN u 10000
      have e2 : (u : Int).tdiv 10000 = ((u / 10000 : Nat) : Int) := tdivN u 10000
      have e3 := u32w (u / 10000) (by omega)
      have f5 : ((u % 10000 : Nat) : Int).tdiv 100 = ((u % 10000 / 100 : Nat) : Int) := tdivN _ 100
      have f6 : ((u % 10000 : Nat) : Int).tmod 100 = ((u % 10000 % 100 : Nat) : Int) := tmodN _ 100
      have f4 := u32w (u / 100 % 100) (by omega)
      have y5 : u % 10000 / 100 = u / 100 % 100 := by omega
      have y6 : u % 10000 % 100 = u % 100 := by omega
      rw [y5] at f5
      rw [y6] at f6
      have b0 : u % 100 < 100 := by omega
      have b1 : u / 100 % 100 < 100 := by omega
      have hdd : digN (q + 4) u = digN q (u / 10000) ++ ([UInt8.ofNat (48 + u / 100 % 100 / 10), UInt8.ofNat (48 + u / 100 % 100 % 10)] ++ [UInt8.ofNat (48 + u % 100 / 10), UInt8.ofNat (48 + u % 100 % 10)]) := by
        rw [show q + 4 = q + 2 + 2 by omega, digN2, digN2]
        simp only [Nat.div_div_eq_div_mul, List.append_assoc]
      have hpq : u / 10000 < 10 ^ q := by rw [Nat.pow_add] at hu; omega
      have hu7 : u / 10000 < 10000000 := by omega
      generalize u / 100 % 100 = X1 at *
      generalize u % 100 = X0 at *
      have m0 := u32m X0 (by omega)
      have a0 := u32p X0 (by omega)
      have g0 : aidx (.int .u32 ((2 * X0 : Nat) : Int)) 200 = some (2 * X0) := aidx_of (by omega)
      have h0 : aidx (.int .u32 ((2 * X0 + 1 : Nat) : Int)) 200 = some (2 * X0 + 1) := aidx_of (by omega)
      have s0 := sm_lo X0 (by omega)
      have z0 := sm_hi X0 (by omega)
      have m1 := u32m X1 (by omega)
      have a1 := u32p X1 (by omega)
      have g1 : aidx (.int .u32 ((2 * X1 : Nat) : Int)) 200 = some (2 * X1) := aidx_of (by omega)
      have h1 : aidx (.int .u32 ((2 * X1 + 1 : Nat) : Int)) 200 = some (2 * X1 + 1) := aidx_of (by omega)
      have s1 := sm_lo X1 (by omega)
      have z1 := sm_hi X1 (by omega)
      have i1 : IntKind.i64.wrap (((q + 4 : Nat) : Int) - 1) = ((q + 3 : Nat) : Int) := by rw [IntWalk.i64_in _ (by omega)]; omega
      have x1 : aidx (.int .i64 ((q + 3 : Nat) : Int)) nd = some (q + 3) := aidx_of (by omega)
      have p1 : ∀ S v, aput (KK C (o + (q + 4)) S) (o + (q + 3)) [v] = KK C (o + (q + 3)) (v :: S) := fun S v => KK_put C S (o + (q + 3)) v (by omega)
      have l1 : ∀ S, (o + (q + 3) + 1 ≤ (KK C (o + (q + 4)) S).length) = True := fun S => eq_true (KK_len C S (o + (q + 3)) (by omega))
      have i2 : IntKind.i64.wrap (((q + 4 : Nat) : Int) - 2) = ((q + 2 : Nat) : Int) := by rw [IntWalk.i64_in _ (by omega)]; omega
      have x2 : aidx (.int .i64 ((q + 2 : Nat) : Int)) nd = some (q + 2) := aidx_of (by omega)
      have p2 : ∀ S v, aput (KK C (o + (q + 3)) S) (o + (q + 2)) [v] = KK C (o + (q + 2)) (v :: S) := fun S v => KK_put C S (o + (q + 2)) v (by omega)
      have l2 : ∀ S, (o + (q + 2) + 1 ≤ (KK C (o + (q + 3)) S).length) = True := fun S => eq_true (KK_len C S (o + (q + 2)) (by omega))
      have i3 : IntKind.i64.wrap (((q + 4 : Nat) : Int) - 3) = ((q + 1 : Nat) : Int) := by rw [IntWalk.i64_in _ (by omega)]; omega
      have x3 : aidx (.int .i64 ((q + 1 : Nat) : Int)) nd = some (q + 1) := aidx_of (by omega)
      have p3 : ∀ S v, aput (KK C (o + (q + 2)) S) (o + (q + 1)) [v] = KK C (o + (q + 1)) (v :: S) := fun S v => KK_put C S (o + (q + 1)) v (by omega)
      have l3 : ∀ S, (o + (q + 1) + 1 ≤ (KK C (o + (q + 2)) S).length) = True := fun S => eq_true (KK_len C S (o + (q + 1)) (by omega))
      have i4 : IntKind.i64.wrap (((q + 4 : Nat) : Int) - 4) = ((q : Nat) : Int) := by rw [IntWalk.i64_in _ (by omega)]; omega
      have x4 : aidx (.int .i64 ((q : Nat) : Int)) nd = some q := aidx_of (by omega)
      have p4 : ∀ S v, aput (KK C (o + (q + 1)) S) (o + q) [v] = KK C (o + q) (v :: S) := fun S v => KK_put C S (o + q) v (by omega)
      have l4 : ∀ S, (o + q + 1 ≤ (KK C (o + (q + 1)) S).length) = True := fun S => eq_true (KK_len C S (o + q) (by omega))
      simp [e1, e2, e3, f4, f5, f6, smB_eq, hsz, m0, a0, g0, h0, s0, z0, m1, a1, g1, h1, s1, z1, i1, x1, p1, l1, i2, x2, p2, l2, i3, x3, p3, l3, i4, x4, p4, l4, cellsOf_set, set_set, hmd', mcells, -Int.natCast_add, -Int.natCast_mul, -Int.natCast_ediv, -Int.natCast_emod]
      rw [d8 _ (by omega), d8 _ (by omega), d8 _ (by omega), d8 _ (by omega)]
      refine ⟨q, u / 10000, _, by omega, by omega, by simp, by simp, by simp, hpq, hu7, ?_, ?_, rfl⟩
      · intro v hv
        simp only [List.mem_cons] at hv
        rcases hv with rfl | rfl | rfl | rfl | hv
        all_goals first | exact ⟨_, _, rfl⟩ | exact hS v hv
      · rw [← hdig, hdd]
        simp only [ubs, List.map_append, List.map_cons, List.map_nil, List.append_assoc, List.cons_append, List.nil_append]
    · intro hcond
      have h4 : ¬ 4 ≤ m := by have := of_decide_eq_false hcond; omega
      simp
      exact ⟨m, u, S, by omega, Nat.le_refl _, by simp, by simp, by simp, hu, by omega, hS, hdig, rfl⟩
    · rintro f H ⟨m1, xa, S1, hm3, hmm, hf0, hf12, hf4, hx1, hx7, hS1, hd1, rfl⟩
      simp [hf0, hf12, hf4, smB_eq]
      refine cond_join (FBJ h b o nd cap U C md e 1 m) ?_ ?_ ?_
      · intro hcond
        have h4 : 2 ≤ m1 := by have := of_decide_eq_true hcond; omega
        clear hcond
        obtain ⟨q, rfl⟩ : ∃ q, m1 = q + 2 := ⟨m1 - 2, by omega⟩
        have hx1' : xa < 10000000 := hx7
        have e1 : (xa : Int).tmod 100 = ((xa % 100 : Nat) : Int) := tmodN xa 100
        have e2 : (xa : Int).tdiv 100 = ((xa / 100 : Nat) : Int) := tdivN xa 100
        have e3 := u32w (xa / 100) (by omega)
        have b0 : xa % 100 < 100 := by omega
        have hdd := digN2 q xa
        have hpq : xa / 100 < 10 ^ q := by rw [Nat.pow_add] at hx1; omega
        obtain ⟨X0, hX0⟩ : ∃ X0, xa % 100 = X0 := ⟨_, rfl⟩
        rw [hX0] at e1 b0 hdd
        have m0 := u32m X0 (by omega)
        have a0 := u32p X0 (by omega)
        have g0 : aidx (.int .u32 ((2 * X0 : Nat) : Int)) 200 = some (2 * X0) := aidx_of (by omega)
        have h0 : aidx (.int .u32 ((2 * X0 + 1 : Nat) : Int)) 200 = some (2 * X0 + 1) := aidx_of (by omega)
        have s0 := sm_lo X0 (by omega)
        have z0 := sm_hi X0 (by omega)
        have i1 : IntKind.i64.wrap (((q + 2 : Nat) : Int) - 1) = ((q + 1 : Nat) : Int) := by rw [IntWalk.i64_in _ (by omega)]; omega
        have x1 : aidx (.int .i64 ((q + 1 : Nat) : Int)) nd = some (q + 1) := aidx_of (by omega)
        have p1 : ∀ S v, aput (KK C (o + (q + 2)) S) (o + (q + 1)) [v] = KK C (o + (q + 1)) (v :: S) := fun S v => KK_put C S (o + (q + 1)) v (by omega)
        have l1 : ∀ S, (o + (q + 1) + 1 ≤ (KK C (o + (q + 2)) S).length) = True := fun S => eq_true (KK_len C S (o + (q + 1)) (by omega))
        have i2 : IntKind.i64.wrap (((q + 2 : Nat) : Int) - 2) = ((q : Nat) : Int) := by rw [IntWalk.i64_in _ (by omega)]; omega
        have x2 : aidx (.int .i64 ((q : Nat) : Int)) nd = some q := aidx_of (by omega)
        have p2 : ∀ S v, aput (KK C (o + (q + 1)) S) (o + q) [v] = KK C (o + q) (v :: S) := fun S v => KK_put C S (o + q) v (by omega)
        have l2 : ∀ S, (o + q + 1 ≤ (KK C (o + (q + 1)) S).length) = True := fun S => eq_true (KK_len C S (o + q) (by omega))
        simp [hf0, hf12, hf4, e1, e2, e3, smB_eq, hsz, m0, a0, g0, h0, s0, z0, i1, x1, p1, l1, i2, x2, p2, l2, cellsOf_set, set_set, hmd', mcells, -Int.natCast_add, -Int.natCast_mul, -Int.natCast_ediv, -Int.natCast_emod]
        rw [d8 _ (by omega), d8 _ (by omega)]
        refine ⟨q, xa / 100, _, by omega, by omega, by simp [hf0], by simp, by simp, hpq, by omega, ?_, ?_, rfl⟩
        · intro v hv
          simp only [List.mem_cons] at hv
          rcases hv with rfl | rfl | hv
          all_goals first | exact ⟨_, _, rfl⟩ | exact hS1 v hv
        · rw [← hd1, hdd]
          simp only [ubs, List.map_append, List.map_cons, List.map_nil, List.append_assoc, List.cons_append, List.nil_append]
      · intro hcond
        have h4 : ¬ 2 ≤ m1 := by have := of_decide_eq_false hcond; omega
        simp
        exact ⟨m1, xa, S1, by omega, by omega, by simp [hf0], by simp [hf12], by simp [hf4], hx1, hx7, hS1, hd1, rfl⟩
      · rintro f H ⟨m2, x2, S2, hm1, hmm2, hf0, hf12, hf4, hx2, _, hS2, hd2, rfl⟩
        by_cases h0 : m2 = 0
        · subst h0
          simp [hf0, hf12, hf4]
          have : S2 = ubs (digN nd U) ++ C.drop (o + nd) := by rw [← hd2]; rfl
          rw [this]; rfl
        · obtain rfl : m2 = 1 := by omega
          have hx10 : x2 < 10 := by simpa using hx2
          have w48 : IntKind.u32.wrap (48 + (x2 : Int)) = ((48 + x2 : Nat) : Int) := by have := u32w (48 + x2) (by omega); rw [show (48 : Int) + (x2 : Int) = ((48 + x2 : Nat) : Int) by omega]; exact this
          have w8 : IntKind.u8.wrap ((48 + x2 : Nat) : Int) = ((48 + x2 : Nat) : Int) := by unfold IntKind.wrap; simp [IntKind.bits, IntKind.signed]; omega
          have hix : aidx (.int .i64 0) nd = some 0 := aidx_of (i := 0) (by omega)
          have hp : ∀ v, aput (KK C (o + 1) S2) o [v] = KK C o (v :: S2) := fun v => KK_put C S2 o v (by omega)
          have hl : (o + 1 ≤ (KK C (o + 1) S2).length) = True := eq_true (KK_len C S2 o (by omega))
          simp [hf0, hf12, hf4, w48, w8, hix, hp, hl, cellsOf_set, set_set, hmd', mcells, -Int.natCast_add, -Int.natCast_mul, -Int.natCast_ediv, -Int.natCast_emod]
          rw [← hd2]
          have : digN 1 x2 = [UInt8.ofNat (48 + x2)] := by
            show [] ++ [UInt8.ofNat (48 + x2 % 10)] = _
            rw [Nat.mod_eq_of_lt hx10]; rfl
          rw [this]
          unfold KK
          simp [ubs, eb]
          have h256 : (48 + (x2 : Int)) % 256 = 48 + (x2 : Int) := by omega
          rw [h256]

def zl (k : IntKind) (n : Nat) : List Value := List.replicate n (.int k 0)
def c125 : AC := .seq (.ops [⟨some 4,none,.mv (.const (.string ⟨⟨[]⟩⟩))⟩]) (.seq (.seq (.ops [⟨some 10,none,.mv (.tmp 1)⟩,⟨some 11,none,.bin .eql (.tmp 10) (.const (.int .i64 10))⟩]) (.cond (.tmp 11) (.seq (.seq (.ops [⟨some 12,none,.mv (.tmp 0)⟩,⟨some 13,none,.bin .leq (.const (.int .i64 0)) (.tmp 12)⟩,⟨some 14,none,.mv (.tmp 13)⟩,⟨some 15,some (14,true),.mv (.tmp 0)⟩,⟨some 16,some (14,true),.bin .lss (.tmp 15) (.const (.int .i64 100))⟩,⟨some 17,none,.pick (.tmp 14) (.tmp 16) (.const (.bool false))⟩]) (.cond (.tmp 17) (.seq (.ops [⟨some 18,none,.mv (.tmp 0)⟩,⟨some 19,none,.call 157 [.tmp 18]⟩,⟨some 4,none,.mv (.tmp 19)⟩]) .ret) .skip)) (.seq (.ops [⟨some 5,none,.alloc (zl .u8 24)⟩]) (.seq (.ops [⟨some 20,none,.mv (.tmp 0)⟩,⟨some 21,none,.toInt .u64 (.tmp 20)⟩,⟨some 6,none,.mv (.tmp 21)⟩]) (.seq (.seq (.ops [⟨some 22,none,.mv (.tmp 0)⟩,⟨some 23,none,.bin .lss (.tmp 22) (.const (.int .i64 0))⟩]) (.cond (.tmp 23) (.ops [⟨some 24,none,.mv (.tmp 6)⟩,⟨some 25,none,.un .neg (.tmp 24)⟩,⟨some 6,none,.mv (.tmp 25)⟩]) .skip)) (.seq (.ops [⟨some 26,none,.mv (.tmp 6)⟩,⟨some 27,none,.call 158 [.tmp 26]⟩,⟨some 7,none,.mv (.tmp 27)⟩]) (.seq (.ops [⟨some 28,none,.mv (.tmp 7)⟩,⟨some 29,none,.bin .add (.const (.int .i64 1)) (.tmp 28)⟩,⟨some 30,none,.slA 24 1 (.tmp 5) (some (.const (.int .i64 1))) (some (.tmp 29)) none⟩,⟨some 31,none,.mv (.tmp 6)⟩,⟨some 32,none,.call 159 [.tmp 30,.tmp 31]⟩]) (.seq (.seq (.ops [⟨some 33,none,.mv (.tmp 0)⟩,⟨some 34,none,.bin .lss (.tmp 33) (.const (.int .i64 0))⟩]) (.cond (.tmp 34) (.seq (.ops [⟨some 35,none,.iAddrA 24 1 (.tmp 5) (.const (.int .i64 0))⟩,⟨none,none,.store 1 (.tmp 35) (.const (.int .u8 45))⟩]) (.seq (.ops [⟨some 36,none,.mv (.tmp 7)⟩,⟨some 37,none,.bin .add (.const (.int .i64 1)) (.tmp 36)⟩,⟨some 38,none,.slA 24 1 (.tmp 5) none (some (.tmp 37)) none⟩,⟨some 39,none,.toStr (.tmp 38)⟩,⟨some 4,none,.mv (.tmp 39)⟩]) .ret)) .skip)) (.seq (.ops [⟨some 40,none,.mv (.tmp 7)⟩,⟨some 41,none,.bin .add (.const (.int .i64 1)) (.tmp 40)⟩,⟨some 42,none,.slA 24 1 (.tmp 5) (some (.const (.int .i64 1))) (some (.tmp 41)) none⟩,⟨some 43,none,.toStr (.tmp 42)⟩,⟨some 4,none,.mv (.tmp 43)⟩]) .ret)))))))) .skip)) (.seq (.ops [⟨some 45,none,.mv (.tmp 0)⟩,⟨some 46,none,.toInt .u64 (.tmp 45)⟩,⟨some 47,none,.mv (.tmp 1)⟩,⟨some 48,none,.mv (.tmp 0)⟩,⟨some 49,none,.bin .lss (.tmp 48) (.const (.int .i64 0))⟩,⟨some 50,none,.call 160 [.const (.slice none 0 0),.tmp 46,.tmp 47,.tmp 49,.const (.bool false)]⟩,⟨some 44,none,.mv (.tmp 50)⟩,⟨some 51,none,.extr (.tmp 44) 0⟩,⟨some 52,none,.extr (.tmp 44) 1⟩,⟨some 8,none,.mv (.tmp 51)⟩,⟨some 9,none,.mv (.tmp 52)⟩]) (.seq (.ops [⟨some 53,none,.mv (.tmp 9)⟩,⟨some 4,none,.mv (.tmp 53)⟩]) .ret)))
theorem k125 : compF Tryz.prog Tryz.f125 = some (c125, [4]) := by kernel_rfl
theorem n125 : Tryz.f125.ntmps = 54 := by kernel_rfl
def c92 : AC := .seq (.ops [⟨some 2,none,.mv (.const (.string ⟨⟨[]⟩⟩))⟩]) (.seq (.ops [⟨some 3,none,.mv (.tmp 0)⟩,⟨some 4,none,.call 125 [.tmp 3,.const (.int .i64 10)]⟩,⟨some 2,none,.mv (.tmp 4)⟩]) .ret)
theorem k92 : compF Tryz.prog Tryz.f92 = some (c92, [2]) := by kernel_rfl
theorem n92 : Tryz.f92.ntmps = 5 := by kernel_rfl
def c58 : AC := .seq (.ops [⟨some 2,none,.mv (.const (.string ⟨⟨[]⟩⟩))⟩]) (.seq (.ops [⟨some 3,none,.mv (.tmp 0)⟩,⟨some 4,none,.call 92 [.tmp 3]⟩,⟨some 2,none,.mv (.tmp 4)⟩]) .ret)
theorem k58 : compF Tryz.prog Tryz.f58 = some (c58, [2]) := by kernel_rfl
theorem n58 : Tryz.f58.ntmps = 5 := by kernel_rfl
theorem zl_len (k : IntKind) (n : Nat) : (zl k n).length = n := List.length_replicate
theorem ndig_spec (u : Nat) (hu : u < 2 ^ 64) : 1 ≤ ndig u ∧ ndig u ≤ 20 ∧ u < 10 ^ ndig u := by
  obtain ⟨k, h1, h2, h3⟩ := ndig_ex 20 u (by omega) (by omega) (Nat.lt_of_lt_of_le hu (by decide))
  rw [ndig_eq h1 h2 h3]
  exact ⟨by omega, by omega, h3⟩
theorem dec_len (u : Nat) : (dec u).length = ndig u := digN_len _ _
theorem natAbs_u (n : Int) (h1 : -9223372036854775808 ≤ n) (h0 : n < 0) : IntKind.u64.wrap (-IntKind.u64.wrap n) = ((n.natAbs : Nat) : Int) := by
  unfold IntKind.wrap
  simp [IntKind.bits, IntKind.signed]
  omega
theorem itoa_ok (n : Int) (hlo : -9223372036854775808 ≤ n) (hhi : n < 9223372036854775808) (h : Heap) : ACalls Tryz.prog 58 [.int .i64 n] h fun v h' => v = .string (bs (itoaB n)) ∧ h' = h := by
  have fmt : ACalls Tryz.prog 125 [.int .i64 n, .int .i64 10] h fun v h' => v = .string (bs (itoaB n)) ∧ h' = h := by
    refine ACalls.same .string (acalls_of mix Tryz.func125 k125 n125 (by simp) fun hcl hb => ?_)
    by_cases hs : 0 ≤ n ∧ n < 100
    · obtain ⟨m, rfl⟩ : ∃ m : Nat, n = m := ⟨n.toNat, by omega⟩
      have h0 : (0 : Int) ≤ (m : Int) := by omega
      have h1 : (m : Int) < 100 := hs.2
      simp [c125, h0, h1]
      refine (small_ok m (by omega) h).mono ?_
      rintro _ h9 ⟨rfl, e⟩
      rw [e]; clear e h9
      have : itoaB (m : Int) = dec m := by unfold itoaB; rw [if_neg (by omega)]; rfl
      simp [this]
      exact Heap.Ext.refl h
    · have hns : ¬ ((decide (0 ≤ n) = true) ∧ decide (n < 100) = true) := by simpa using hs
      have hz := zl_len .u8 24
      have hc1 : (h.push (.cells (zl .u8 24) .ex 1)).Closed := closed_push hcl fun v hv => by rw [List.eq_of_mem_replicate hv]; exact .int
      have hf1 := cellsOf_new h (zl .u8 24) .ex 1
      have hzi : ∀ v ∈ zl .u8 24, ∃ k n, v = Value.int k n := fun v hv => by rw [List.eq_of_mem_replicate hv]; exact ⟨_, _, rfl⟩
      have e0 := (Heap.Ext.refl h).push hcl (.cells (zl .u8 24) .ex 1)
      -- the digits, laid down
      have key : ∀ (u : Nat), u < 2 ^ 64 → 0 < u → ACalls Tryz.prog 159 [.slice (some ⟨h.n, 1, none⟩) (ndig u) (24 - 1), .int .u64 u] (h.push (.cells (zl .u8 24) .ex 1)) fun v h' => v = .tuple #[] ∧ h' = h.push (.cells (.int .u8 0 :: (ubs (dec u) ++ zl .u8 (23 - ndig u))) .ex 1) := by
        intro u hu h0
        obtain ⟨g1, g2, g3⟩ := ndig_spec u hu
        refine (fb10_ok h.n 1 (ndig u) (24 - 1) u (zl .u8 24) .ex 1 _ hf1 (by simp) (by rw [hz]; omega) g2 g3 hu hzi).mono ?_
        rintro _ h9 ⟨rfl, rfl⟩
        refine ⟨rfl, ?_⟩
        rw [set_push]
        have : (zl .u8 24).drop (1 + ndig u) = zl .u8 (23 - ndig u) := by unfold zl; rw [List.drop_replicate]; congr 1; omega
        rw [this]
        rfl
      have fin : ∀ (u : Nat), u < 2 ^ 64 → acut (.int .u8 0 :: (ubs (dec u) ++ zl .u8 (23 - ndig u))) 1 (ndig u) = some (ubs (dec u)) := by
        intro u hu
        obtain ⟨g1, g2, g3⟩ := ndig_spec u hu
        unfold acut
        rw [if_pos (by simp [ubs_len, dec_len, zl_len]; omega)]
        simp [List.take_append_of_le_length, ubs_len, dec_len]
        try rw [List.take_of_length_le (by rw [ubs_len, dec_len]; exact Nat.le_refl _)]
      have hrep : (List.replicate 24 [Value.int .u8 0]).flatten = zl .u8 24 := rfl
      by_cases hneg : n < 0
      · have h0 : ¬ (0 : Int) ≤ n := by omega
        have hu := natAbs_u n hlo hneg
        have hu64 : n.natAbs < 2 ^ 64 := by omega
        have hpos : 0 < n.natAbs := by omega
        obtain ⟨g1, g2, g3⟩ := ndig_spec _ hu64
        have w1n : IntKind.i64.wrap (1 + (ndig n.natAbs : Int)) = ((1 + ndig n.natAbs : Nat) : Int) := by rw [IntWalk.i64_in _ (by omega)]; omega
        have b1 : abounds 24 24 (some (.int .i64 1)) (some (.int .i64 ((1 + ndig n.natAbs : Nat) : Int))) none = some (1, 1 + ndig n.natAbs, 24) := abounds_lohi (l := 1) (by omega) (by omega)
        have b2 : abounds 24 24 none (some (.int .i64 ((1 + ndig n.natAbs : Nat) : Int))) none = some (0, 1 + ndig n.natAbs, 24) := abounds_hi (by omega)
        have hsub : 1 + ndig n.natAbs - 1 = ndig n.natAbs := by omega
        have ha0 : aidx (.int .i64 0) 24 = some 0 := rfl
        simp [c125, h0, hneg, aun, hu]
        refine (numDigits_ok _ hu64 hpos _).mono ?_
        rintro _ h9 ⟨rfl, e⟩
        rw [e]; clear e h9
        simp [w1n, b1, hsub, -Int.natCast_add]
        refine (key _ hu64 hpos).mono ?_
        rintro _ h9 ⟨rfl, e⟩
        rw [e]; clear e h9
        have hfc := cellsOf_new h (.int .u8 0 :: (ubs (dec n.natAbs) ++ zl .u8 (23 - ndig n.natAbs))) .ex 1
        have hput : aput (.int .u8 0 :: (ubs (dec n.natAbs) ++ zl .u8 (23 - ndig n.natAbs))) 0 [.int .u8 45] = ubs (45 :: dec n.natAbs) ++ zl .u8 (23 - ndig n.natAbs) := rfl
        have hfc2 := cellsOf_new h (ubs (45 :: dec n.natAbs) ++ zl .u8 (23 - ndig n.natAbs)) .ex 1
        have hcut : acut (ubs (45 :: dec n.natAbs) ++ zl .u8 (23 - ndig n.natAbs)) 0 (1 + ndig n.natAbs) = some (ubs (45 :: dec n.natAbs)) := by
          have hl : (ubs (45 :: dec n.natAbs)).length = 1 + ndig n.natAbs := by rw [ubs_len, List.length_cons, dec_len]; omega
          unfold acut
          rw [if_pos (by rw [List.length_append, hl]; omega), List.drop_zero, List.take_append_of_le_length (by omega), List.take_of_length_le (by omega)]
        have hI : itoaB n = 45 :: dec n.natAbs := by unfold itoaB; rw [if_pos hneg]
        simp [hneg, ha0, hfc, mcells, hput, set_push, w1n, b2, afirst, hfc2, hcut, abytes_ubs, bs_mk, hI, -Int.natCast_add]
        exact (Heap.Ext.refl h).push hcl _
      · have h0 : (0 : Int) ≤ n := by omega
        have h1 : ¬ n < 100 := fun q => hs ⟨h0, q⟩
        obtain ⟨m, rfl⟩ : ∃ m : Nat, n = m := ⟨n.toNat, by omega⟩
        have hm64 : m < 2 ^ 64 := by omega
        have hpos : 0 < m := by omega
        obtain ⟨g1, g2, g3⟩ := ndig_spec _ hm64
        have hu := u64w m (by omega)
        have w1n : IntKind.i64.wrap (1 + (ndig m : Int)) = ((1 + ndig m : Nat) : Int) := by rw [IntWalk.i64_in _ (by omega)]; omega
        have b1 : abounds 24 24 (some (.int .i64 1)) (some (.int .i64 ((1 + ndig m : Nat) : Int))) none = some (1, 1 + ndig m, 24) := abounds_lohi (l := 1) (by omega) (by omega)
        have hsub : 1 + ndig m - 1 = ndig m := by omega
        simp [c125, h0, h1, hneg, hu]
        refine (numDigits_ok _ hm64 hpos _).mono ?_
        rintro _ h9 ⟨rfl, e⟩
        rw [e]; clear e h9
        simp [w1n, b1, hsub, -Int.natCast_add]
        refine (key _ hm64 hpos).mono ?_
        rintro _ h9 ⟨rfl, e⟩
        rw [e]; clear e h9
        have hfc := cellsOf_new h (.int .u8 0 :: (ubs (dec m) ++ zl .u8 (23 - ndig m))) .ex 1
        have hcut := fin _ hm64
        have hI : itoaB (m : Int) = dec m := by unfold itoaB; rw [if_neg (by omega)]; rfl
        simp [hneg, hfc, w1n, b1, hsub, afirst, hcut, abytes_ubs, bs_mk, hI, -Int.natCast_add]
        exact (Heap.Ext.refl h).push hcl _
  refine acalls_of mix Tryz.func58 k58 n58 (by simp) fun hcl hb => ?_
  simp [c58]
  refine ACalls.mono (R := fun v h' => v = .string (bs (itoaB n)) ∧ h' = h) ?_ ?_
  · refine acalls_of mix Tryz.func92 k92 n92 (by simp) fun hcl hb => ?_
    simp [c92]
    refine fmt.mono ?_
    rintro _ h9 ⟨rfl, rfl⟩
    simp
  · rintro _ h9 ⟨rfl, rfl⟩
    simp
structure GE : Prop where
  errS : GT 3 = some [.float .f64 0]
  errR : GT 4 = some [.float .f64 0]
theorem ge [x : Nonempty GE] : GE := x.elim id

end Go.Proofs.YtofoihlcjmghfaaGreatDoor.str

