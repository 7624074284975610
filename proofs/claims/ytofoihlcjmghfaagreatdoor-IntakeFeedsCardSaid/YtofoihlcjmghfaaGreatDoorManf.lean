/-
  Contracts.
-/
import Derived.Test.YtofoihlcjmghfaaGreatDoorSha
import Derived.Test.YtofoihlcjmghfaaGreatDoorLin1
import Derived.Test.YtofoihlcjmghfaaGreatDoorVers
import Derived.Test.YtofoihlcjmghfaaGreatDoorStr
import Derived.Test.YtofoihlcjmghfaaGreatDoorAbEnter
import Derived.Test.YtofoihlcjmghfaaGreatDoorAbStep
import Derived.Test.YtofoihlcjmghfaaGreatDoorProg
import Derived.Shelf.Strings.Search2
import Derived.IntWalk
import Derived.KernelRfl
set_option linter.unusedSimpArgs false
set_option linter.unusedVariables false
set_option linter.unusedSectionVars false
namespace Go.Proofs.YtofoihlcjmghfaaGreatDoor.manf
open Go Go.Ab Go.Proofs Go.RowKit Go.Proofs.YtofoihlcjmghfaaGreatDoor.str Go.Proofs.YtofoihlcjmghfaaGreatDoor.vers Go.Proofs.YtofoihlcjmghfaaGreatDoor.lin1 Go.Proofs.YtofoihlcjmghfaaGreatDoor.sha
variable [Inhabited TabBox]
variable [Nonempty GF]
variable [Nonempty GE]
set_option maxRecDepth 100000
attribute [local simp] s_ops s_seq s_cond s_cond_t s_cond_f s_block s_exit s_ret s_skip s_then_n s_then_n' s_then_e s_then_e' s_then_r s_then_r' s_block_n s_block_r s_block_e s_post_r s_post_n s_res0 s_res1 s_res2 s_res3 s_res4 s_nil s_cons s_guard s_guard_tt s_guard_ff s_guard_tf s_guard_ft s_guard_u s_call s_kL s_put s_put0 s_set s_tmp s_const s_func s_glob s_init s_mkF s_mkF0 s_mv s_bin s_pick s_op aop oK_some oK_none bK_some bK_none b_add b_sub b_mul b_quo b_rem b_and b_or b_xor b_andNot b_shl b_shr b_eql b_neq b_lss b_leq b_gtr b_geq b_sadd b_seql b_sneq b_slss b_sleq b_sgtr b_sgeq s_draw s_drawT s_tK s_tT s_tF s_tB s_tR s_stage s_stage0 s_kW s_kR s_rc0 s_rc s_rcg rK_some rK_none rG_b rG_u s_callv s_callv_f s_nextM s_postR_r s_postR_n s_resA0 s_resAt s_resAc s_resC s_tup0 s_tup1 s_tup2 s_tup3
def z36 : List Value := [.int .i64 0, .int .i64 0, .int .i64 0, .int .i64 0] ++ zl .u8 32
def ckl (n : Nat) : List CK := List.replicate n .i
def c55 : AC := .seq (.ops [⟨some 1,none,.box (.tmp 0)⟩,⟨some 2,none,.mv (.const (.bool false))⟩]) (.seq (.seq (.ops [⟨some 5,none,.fAddr 0 (.tmp 1)⟩,⟨some 6,none,.load (some 3) (.tmp 5)⟩,⟨some 7,none,.mv (.const (.int .i64 0))⟩]) (.block 0 (.loop (.seq (.ops [⟨some 8,none,.bin .lss (.tmp 7) (.const (.int .i64 3))⟩]) (.seq (.cond (.tmp 8) .skip (.exit 0)) (.seq (.block 1 (.seq (.ops [⟨some 9,none,.iValA 3 1 none (.tmp 6) (.tmp 7)⟩,⟨some 4,none,.mv (.tmp 9)⟩]) (.seq (.ops [⟨some 10,none,.mv (.tmp 4)⟩,⟨some 11,none,.bin .lss (.tmp 10) (.const (.int .i64 0))⟩,⟨some 12,none,.mv (.tmp 11)⟩,⟨some 13,some (12,false),.mv (.tmp 4)⟩,⟨some 14,some (12,false),.bin .gtr (.tmp 13) (.const (.int .i64 65535))⟩,⟨some 15,none,.pick (.tmp 12) (.const (.bool true)) (.tmp 14)⟩]) (.cond (.tmp 15) (.seq (.ops [⟨some 2,none,.mv (.const (.bool false))⟩]) .ret) .skip)))) (.ops [⟨some 16,none,.bin .add (.tmp 7) (.const (.int .i64 1))⟩,⟨some 7,none,.mv (.tmp 16)⟩]))))))) (.seq (.ops [⟨some 17,none,.fAddr 3 (.tmp 1)⟩,⟨some 18,none,.load none (.tmp 17)⟩,⟨some 19,none,.bin .geq (.tmp 18) (.const (.int .i64 0))⟩,⟨some 20,none,.mv (.tmp 19)⟩,⟨some 21,some (20,true),.fAddr 3 (.tmp 1)⟩,⟨some 22,some (20,true),.load none (.tmp 21)⟩,⟨some 23,some (20,true),.bin .leq (.tmp 22) (.const (.int .i64 16777215))⟩,⟨some 24,none,.pick (.tmp 20) (.tmp 23) (.const (.bool false))⟩,⟨some 2,none,.mv (.tmp 24)⟩]) .ret))
theorem k55 : compF Tryz.prog Tryz.f55 = some (c55, [2]) := by kernel_rfl
theorem n55 : Tryz.f55.ntmps = 25 := by kernel_rfl
def c23 : AC := .seq (.ops [⟨some 2,none,.box (.tmp 0)⟩,⟨some 4,none,.alloc z36⟩]) (.seq (.draw [([⟨some 5,none,.load (some 3) (.tmp 2)⟩,⟨some 6,none,.mv (.tmp 1)⟩,⟨some 7,none,.lenS true (.tmp 6)⟩,⟨some 8,none,.mv (.tmp 1)⟩],[⟨some 9,none,.buildS 1 [.string ⟨⟨[]⟩⟩] [(0,1,.tmp 8)]⟩],[⟨some 5,none,.load (some 3) (.tmp 2)⟩]),([],[⟨some 10,none,.call 54 [.tmp 9]⟩],[⟨some 5,none,.load (some 3) (.tmp 2)⟩]),([⟨some 11,none,.build z36 [(0,3,.tmp 5),(3,1,.tmp 7),(4,32,.tmp 10)]⟩],[⟨none,none,.store 36 (.tmp 4) (.tmp 11)⟩],[]),([],[],[])]) .ret)
theorem k23 : compR Tryz.prog Tryz.f23 = some (c23, [.c 4 (some 36)]) := by kernel_rfl
theorem n23 : Tryz.f23.ntmps = 12 := by kernel_rfl
structure Hd where
  a : Int
  b : Int
  c : Int
  n : Int
  hs : List UInt8
  deriving DecidableEq
def Hd.vs (x : Hd) : List Int := [x.a, x.b, x.c]
def hc (x : Hd) : List Value := [.int .i64 x.a, .int .i64 x.b, .int .i64 x.c, .int .i64 x.n] ++ ubs x.hs
def hv (x : Hd) : Value := .agg (hc x).toArray
theorem m_hv (x : Hd) : mcells (hv x) = some (hc x) := by simp [mcells, hv]
theorem m_hc (x : Hd) : mcells (.agg (hc x).toArray) = some (hc x) := by simp [mcells]
theorem hc_bel {n : Nat} {x : Hd} : ∀ v ∈ hc x, VBelow n v := fun v hv => by
  rcases List.mem_append.1 hv with hv | hv
  · simp at hv
    rcases hv with rfl | rfl | rfl | rfl <;> exact .int
  · exact ubs_bel v hv
theorem hv_below {n : Nat} {x : Hd} : VBelow n (hv x) := .agg fun i hi => by
  rw [toArray_getD]
  have hi' : i < (hc x).length := by simpa using hi
  simp only [List.getD, List.getElem?_eq_getElem hi', Option.getD_some]
  exact hc_bel _ (List.getElem_mem hi')
def rng (v : Int) : Prop := 0 ≤ v ∧ v ≤ 65535
instance (v : Int) : Decidable (rng v) := inferInstanceAs (Decidable (_ ∧ _))
def rightH (x : Hd) : Prop := (∀ j, j < 3 → rng (x.vs.getD j 0)) ∧ 0 ≤ x.n ∧ x.n ≤ 16777215
instance (x : Hd) : Decidable (rightH x) := inferInstanceAs (Decidable (_ ∧ _))
theorem vs_get (x : Hd) (j : Nat) (hj : j < 3) : ([.int .i64 x.a, .int .i64 x.b, .int .i64 x.c] : List Value)[j]? = some (.int .i64 (x.vs.getD j 0)) := by
  match j, hj with
  | 0, _ => rfl
  | 1, _ => rfl
  | 2, _ => rfl
theorem hc_cut3 (x : Hd) : acut (hc x) 0 3 = some [.int .i64 x.a, .int .i64 x.b, .int .i64 x.c] := by
  unfold acut hc
  rw [if_pos (by simp)]
  rfl
theorem hc3 (x : Hd) : (hc x)[3]? = some (.int .i64 x.n) := rfl
theorem hcj (x : Hd) (j : Nat) (hj : j < 3) : (hc x)[j]? = some (.int .i64 (x.vs.getD j 0)) := by
  match j, hj with
  | 0, _ => rfl
  | 1, _ => rfl
  | 2, _ => rfl
theorem hright_ok (x : Hd) (h : Heap) : ACalls Tryz.prog 55 [hv x] h fun v h' => v = .bool (decide (rightH x)) ∧ h' = h := by
  refine ACalls.same .bool (acalls_of mix Tryz.func55 k55 n55 (by simp) fun hcl hb => ?_)
  have hc1 : (h.push (.cells (hc x) .ex 1)).Closed := closed_push hcl hc_bel
  have hext := (Heap.Ext.refl h).push hcl (.cells (hc x) .ex 1)
  have c3 := hc_cut3 x
  simp [c55, m_hv, cellsOf_new, cellsOf_at, apart, c3]
  generalize hZ : h.push (.cells (hc x) .ex 1) = Z at *
  have hZn : Z.n = h.n + 1 := by rw [← hZ]; rfl
  have fZ : Z.cellsOf h.n = some (hc x, .ex, 1) := by rw [← hZ]; exact cellsOf_new _ _ _ _
  generalize hAG : ([.int .i64 x.a, .int .i64 x.b, .int .i64 x.c] : List Value) = AG at *
  have bag : ∀ n, VBelow n (.agg AG.toArray) := fun n => .agg fun i hi => by
    rw [toArray_getD]
    have hi' : i < AG.length := by simpa using hi
    have h3 : AG.length = 3 := by rw [← hAG]; rfl
    have := vs_get x i (by omega)
    rw [hAG] at this
    simp only [List.getD, this, Option.getD_some]
    exact .int
  refine awp_loop_of (α := Nat) (fun i => i ≤ 3 ∧ ∀ j, j < i → rng (x.vs.getD j 0)) (fun i => [(1, .pointer (some ⟨h.n, 0, none⟩)), (6, .agg AG.toArray), (7, .int .i64 i)]) (fun _ => Z) (fun i => 3 - i) 0
    ⟨by omega, fun j hj => by omega⟩ ⟨by omega, Nat.le_refl _, fun _ _ e => e, hc1⟩ (by simp; exact ⟨.ptr (by show h.n < Z.n; omega), bag _, .int⟩) ?_
  rintro i ⟨hi, hall⟩
  by_cases hi3 : i < 3
  · have hi' : (i : Int) < 3 := by omega
    have hw : IntKind.i64.wrap ((i : Int) + 1) = ((i + 1 : Nat) : Int) := by rw [i64_small (by omega) (by omega)]; omega
    have g := vs_get x i hi3
    rw [hAG] at g
    by_cases h0 : x.vs.getD i 0 < 0
    · have : ¬ rightH x := fun q => by have := (q.1 i hi3).1; omega
      rw [decide_eq_false this]
      generalize x.vs.getD i 0 = y at *
      simp [hi', aidx_of hi3, apart, g, h0]; exact hext
    by_cases h1 : 65535 < x.vs.getD i 0
    · have : ¬ rightH x := fun q => by have := (q.1 i hi3).2; omega
      rw [decide_eq_false this]
      generalize x.vs.getD i 0 = y at *
      simp [hi', aidx_of hi3, apart, g, h0, h1]; exact hext
    have hr : rng (x.vs.getD i 0) := ⟨by omega, by omega⟩
    have hall' : ∀ j, j < i + 1 → rng (x.vs.getD j 0) := fun j hj => by
      by_cases hji : j = i
      · rw [hji]; exact hr
      · exact hall j (by omega)
    generalize x.vs.getD i 0 = y at *
    simp [hi', aidx_of hi3, apart, g, h0, h1]
    exact ⟨i + 1, by omega, ⟨by omega, fun j hj => by simpa using hall' j hj⟩, ⟨by omega, Nat.le_refl _, fun _ _ e => e, hc1⟩, .ptr (by show h.n < Z.n; omega), bag _, hw, .int⟩
  · have hie : i = 3 := by omega
    subst hie
    have g3 := hc3 x
    have hd : decide (rightH x) = (decide (0 ≤ x.n) && decide (x.n ≤ 16777215)) := by
      rw [← Bool.decide_and]
      exact decide_eq_decide.2 ⟨fun q => q.2, fun q => ⟨hall, q⟩⟩
    rw [hd]
    by_cases h0 : 0 ≤ x.n
    · simp [fZ, apart, g3, h0]; exact hext
    · simp [fZ, apart, g3, h0]; exact hext
def zH : Hd := ⟨0, 0, 0, 0, z32⟩
theorem z36_len : z36.length = 36 := by simp [z36, zl]
theorem z36_eq : z36 = hc zH := by
  unfold z36 hc zH zl ubs z32
  congr 1
theorem hc_cut32 (x : Hd) (hx : x.hs.length = 32) : acut (hc x) 4 32 = some (ubs x.hs) := by
  unfold acut hc
  rw [if_pos (by simp [ubs_len, hx])]
  simp only [Option.some.injEq]
  show List.take 32 (ubs x.hs) = _
  rw [List.take_of_length_le (by rw [ubs_len, hx]; omega)]
theorem af36 {a b c n : Int} {l : List UInt8} (h : l.length = 32) : afill z36 [(0, 3, .agg #[.int .i64 a, .int .i64 b, .int .i64 c]), (3, 1, .int .i64 n), (4, 32, .agg (ubs l).toArray)] = some (hc ⟨a, b, c, n, l⟩) := by
  have hu : (ubs l).length = 32 := by rw [ubs_len, h]
  have hd : List.drop 36 z36 = [] := List.drop_eq_nil_of_le (by rw [z36_len]; omega)
  simp [afill, mcells, hu, z36_len, hd, hc]
theorem sl_str (H : Heap) (s : List UInt8) : Sl enS (H.push (.cells [.string (bs s)] .ex 1)) (.slice (some ⟨H.n, 0, none⟩) 1 1) [s] :=
  .inr ⟨H.n, 0, 1, [.string (bs s)], .ex, 1, rfl, cellsOf_new _ _ _ _, Nat.le_refl _, fun _ => by simp, fun i hi => by
    have : i = 0 := by simpa using hi
    subst this; rfl⟩
def v3 (a b c : Int) : Value := .agg #[.int .i64 a, .int .i64 b, .int .i64 c]
theorem hof_ok (a b c : Int) (img : List UInt8) (hi : img.length ≤ 10000000) (h : Heap) : ACalls Tryz.prog 23 [v3 a b c, .string (bs img)] h fun v h' => v = hv ⟨a, b, c, img.length, shaB img⟩ ∧ h' = h := by
  refine ACalls.same hv_below (acalls_ofR mix Tryz.func23 k23 n23 (by simp) fun hcl hb => ?_)
  have m3 : mcells (v3 a b c) = some [.int .i64 a, .int .i64 b, .int .i64 c] := rfl
  have hz := z36_len
  have hbsz := bs_size img
  have c3 : acut [.int .i64 a, .int .i64 b, .int .i64 c] 0 3 = some [.int .i64 a, .int .i64 b, .int .i64 c] := rfl
  have fil : afill [.string (bs [])] [(0, 1, .string (bs img))] = some [.string (bs img)] := rfl
  have hb1 : ¬ h.n = h.n + 1 := by omega
  simp only [c23, s_seq, s_ops]
  simp [m3, cellsOf_ne, cellsOf_at, hb1, apart, c3, hbsz, bs_lit, fil]
  refine (sum_ok [img] _ _ (sl_str _ img) (by simp; omega) (by simp)).mono ?_
  rintro _ h9 ⟨rfl, e⟩
  rw [e]
  clear e h9
  have hf : [img].flatten = img := by simp
  rw [hf]
  have haf := af36 (a := a) (b := b) (c := c) (n := (img.length : Int)) (shaB_len img)
  have hl36 : (hc ⟨a, b, c, img.length, shaB img⟩).length = 36 := by simp [hc, ubs_len, shaB_len]
  have hp : aput z36 0 (hc ⟨a, b, c, img.length, shaB img⟩) = hc ⟨a, b, c, img.length, shaB img⟩ := aput_all _ _ (by rw [hl36, hz])
  have ha := acut_full hl36
  have hn2 : ¬ h.n + 1 = h.n := by omega
  simp [cellsOf_ne, cellsOf_at, hb1, hn2, apart, c3, haf, m_hc, hl36, hp, ha, hz, push_set, set_at]
  exact ⟨rfl, (((Heap.Ext.refl h).push hcl _).push hcl _).push hcl _⟩

open Go.Shelf in
def rho : Ren := ⟨fun n => if n = 217 then 150 else if n = 219 then 119 else if n = 224 then 152 else if n = 225 then 151 else if n = 266 then 165 else if n = 267 then 153 else 166,
  fun n => if n = 3 then 3 else if n = 4 then 4 else if n = 5 then 5 else if n = 9 then 9 else if n = 46 then 110 else if n = 51 then 112 else 221, fun n => 2⟩
open Go.Shelf in
theorem lays219 : Lays.n219 Tryz.prog rho where
  mixed := mix
  f217 := by kernel_rfl
  f219 := by kernel_rfl
  f224 := by kernel_rfl
  f225 := by kernel_rfl
  f266 := by kernel_rfl
  f267 := by kernel_rfl
  f314 := by kernel_rfl
  t3 := by kernel_rfl
  a3 := fun w => by kernel_rfl
  z3 := fun w => by kernel_rfl
  v3 := fun w => by kernel_rfl
  t4 := by kernel_rfl
  a4 := fun w => by kernel_rfl
  z4 := fun w => by kernel_rfl
  v4 := fun w => by kernel_rfl
  t5 := by kernel_rfl
  a5 := fun w => by kernel_rfl
  z5 := fun w => by kernel_rfl
  v5 := fun w => by kernel_rfl
  t9 := by kernel_rfl
  a9 := fun w => by kernel_rfl
  z9 := fun w => by kernel_rfl
  v9 := fun w => by kernel_rfl
  t46 := by kernel_rfl
  a46 := fun w => by kernel_rfl
  z46 := fun w => by kernel_rfl
  v46 := fun w => by kernel_rfl
  t51 := by kernel_rfl
  a51 := fun w => by kernel_rfl
  z51 := fun w => by kernel_rfl
  v51 := fun w => by kernel_rfl
  t146 := by kernel_rfl
  a146 := fun w => by kernel_rfl
  z146 := fun w => by kernel_rfl
  v146 := fun w => by kernel_rfl
  g1 := by kernel_rfl
structure GM : Prop where
  mx : ∃ m, GT 2 = some [.int .i64 m]
theorem gm [x : Nonempty GM] : GM := x.elim id
theorem index_ok [Nonempty GM] (s t : List UInt8) (hs : s.length < 4294967281) (h : Heap) : ACalls Tryz.prog 119 [.string (bs s), .string (bs t)] h fun v h' => v = .int .i64 (Lib.index s t) ∧ h' = h := by
  intro B μ w args' rel la
  obtain ⟨m, hm⟩ := gm.mx
  obtain ⟨hsz, hat⟩ := la
  have h0 := hat 0 (by simp)
  have h1 := hat 1 (by simp)
  obtain ⟨hB, cc, e, fz, hw, hle, hcl⟩ := rel.glob _ _ hm
  have hc0 := (hcl 0 (by simp)).1 μ
  have hcell : w.cell? ⟨2, 0, none⟩ = some (.int .i64 m) := by
    simp only [List.length_cons, List.length_nil] at hle
    have hlt : 0 < cc.size := by omega
    have h3 : cc.getD 0 unk = .int .i64 m := by
      have h4 : VRel μ (.int .i64 m) (cc.getD 0 unk) := hc0
      generalize cc.getD 0 unk = X at h4
      cases h4; rfl
    have h5 : cc[0] = .int .i64 m := by
      rw [← h3]; simp [Array.getD, hlt]
    simp [World.cell?, hw, hlt, h5]
  have hargs : args' = #[.string (bs s), .string (bs t)] := by
    have e0 : args'.getD 0 unk = .string (bs s) := by
      have q : VRel μ (.string (bs s)) (args'.getD 0 unk) := h0
      generalize args'.getD 0 unk = X at q
      cases q; rfl
    have e1 : args'.getD 1 unk = .string (bs t) := by
      have q : VRel μ (.string (bs t)) (args'.getD 1 unk) := h1
      generalize args'.getD 1 unk = X at q
      cases q; rfl
    have hs2 : args'.size = 2 := by simpa using hsz.symm
    apply Array.ext
    · simp [hs2]
    · intro i hi1 hi2
      match i, hi1 with
      | 0, hi1 => simpa [Array.getD, hi1] using e0
      | 1, hi1 => simpa [Array.getD, hi1] using e1
      | i + 2, hi1 => omega
  rw [hargs]
  have key := Any.stringslite_Index lays219 (bs s) (bs t) m w (by rw [bs_size]; exact hs) hcell
  rw [bs_data, bs_data] at key
  refine Calls.mono key fun e' w' ⟨he, hw'⟩ => ⟨.int .i64 (Lib.index s t), .int .i64 (Lib.index s t), h, μ, he, .int, by rw [hw']; exact rel, by rw [hw']; exact Below.refl _ _, fun _ _ => rfl, Nat.le_refl _, rfl, rfl⟩

def c97 : AC := .seq (.ops [⟨some 4,none,.mv (.const (.string ⟨⟨[]⟩⟩))⟩,⟨some 5,none,.mv (.const (.bool false))⟩]) (.seq (.seq (.ops [⟨some 6,none,.mv (.tmp 0)⟩,⟨some 7,none,.mv (.tmp 1)⟩,⟨some 8,none,.call 128 [.tmp 6,.tmp 7]⟩,⟨some 9,none,.un .not (.tmp 8)⟩]) (.cond (.tmp 9) (.seq (.ops [⟨some 10,none,.mv (.tmp 0)⟩,⟨some 4,none,.mv (.tmp 10)⟩,⟨some 5,none,.mv (.const (.bool false))⟩]) .ret) .skip)) (.seq (.ops [⟨some 11,none,.mv (.tmp 0)⟩,⟨some 12,none,.mv (.tmp 1)⟩,⟨some 13,none,.lenS true (.tmp 12)⟩,⟨some 14,none,.slS (.tmp 11) (some (.tmp 13)) none⟩,⟨some 4,none,.mv (.tmp 14)⟩,⟨some 5,none,.mv (.const (.bool true))⟩]) .ret))
theorem k97 : compF Tryz.prog Tryz.f97 = some (c97, [4, 5]) := by kernel_rfl
theorem n97 : Tryz.f97.ntmps = 15 := by kernel_rfl
def c65 : AC := .seq (.ops [⟨some 4,none,.mv (.const (.string ⟨⟨[]⟩⟩))⟩,⟨some 5,none,.mv (.const (.bool false))⟩]) (.seq (.ops [⟨some 6,none,.mv (.tmp 0)⟩,⟨some 7,none,.mv (.tmp 1)⟩,⟨some 8,none,.call 97 [.tmp 6,.tmp 7]⟩,⟨some 9,none,.extr (.tmp 8) 0⟩,⟨some 10,none,.extr (.tmp 8) 1⟩,⟨some 4,none,.mv (.tmp 9)⟩,⟨some 5,none,.mv (.tmp 10)⟩]) .ret)
theorem k65 : compF Tryz.prog Tryz.f65 = some (c65, [4, 5]) := by kernel_rfl
theorem n65 : Tryz.f65.ntmps = 11 := by kernel_rfl
variable [Nonempty GM]
theorem hasP_ok (l p : List UInt8) (h : Heap) : ACalls Tryz.prog 128 [.string (bs l), .string (bs p)] h fun v h' => v = .bool (decide (l.take p.length = p)) ∧ h' = h := by
  refine acalls_of mix Tryz.func128 k128 n128 (by simp) fun hcl hb => ?_
  by_cases hle : p.length ≤ l.length
  · have hle' : (p.length : Int) ≤ (l.length : Int) := by omega
    have b1 : abounds l.length l.length none (some (.int .i64 (p.length : Int))) none = some (0, p.length, l.length) := abounds_hi hle
    have x1 : (bs l).extract 0 p.length = bs (l.take p.length) := by rw [bs_extract, List.drop_zero]
    simp [c128, bs_size, hle', b1, x1, bs_eq_dec]
  · have hle' : ¬ (p.length : Int) ≤ (l.length : Int) := by omega
    have hn : ¬ l.take p.length = p := fun q => by
      have := congrArg List.length q
      rw [List.length_take] at this; omega
    simp [c128, bs_size, hle', hn]
def trimP (p l : List UInt8) : List UInt8 := if l.take p.length = p then l.drop p.length else l
theorem trimP_ok (l p : List UInt8) (h : Heap) : ACalls Tryz.prog 129 [.string (bs l), .string (bs p)] h fun v h' => v = sv (trimP p l) ∧ h' = h := by
  refine acalls_of mix Tryz.func129 k129 n129 (by simp) fun hcl hb => ?_
  simp [c129]
  refine ACalls.mono (R := fun v h' => v = sv (trimP p l) ∧ h' = h) ?_ ?_
  · refine acalls_of mix Tryz.func161 k161 n161 (by simp) fun hcl hb => ?_
    simp [c161]
    refine (hasP_ok l p h).mono ?_
    rintro _ h9 ⟨rfl, e⟩
    rw [e]; clear e h9
    by_cases hx : l.take p.length = p
    · have hle : p.length ≤ l.length := by
        have := congrArg List.length hx
        rw [List.length_take] at this; omega
      have b1 : abounds l.length l.length (some (.int .i64 (p.length : Int))) none none = some (p.length, l.length, l.length) := abounds_lo hle (Nat.le_refl _)
      have x1 : (bs l).extract p.length l.length = bs (l.drop p.length) := by rw [bs_extract, List.take_of_length_le (Nat.le_refl _)]
      simp [hx, bs_size, b1, x1, trimP]
      rfl
    · simp [hx, trimP]
      rfl
  · rintro v h' ⟨rfl, rfl⟩
    simp
theorem cutP_ok (l p : List UInt8) (h : Heap) : ACalls Tryz.prog 65 [.string (bs l), .string (bs p)] h fun v h' => v = .tuple #[sv (trimP p l), .bool (decide (l.take p.length = p))] ∧ h' = h := by
  refine acalls_of mix Tryz.func65 k65 n65 (by simp) fun hcl hb => ?_
  simp [c65]
  refine ACalls.mono (R := fun v h' => v = .tuple #[sv (trimP p l), .bool (decide (l.take p.length = p))] ∧ h' = h) ?_ ?_
  · refine acalls_of mix Tryz.func97 k97 n97 (by simp) fun hcl hb => ?_
    simp [c97]
    refine (hasP_ok l p h).mono ?_
    rintro _ h9 ⟨rfl, e⟩
    rw [e]; clear e h9
    by_cases hx : l.take p.length = p
    · have hle : p.length ≤ l.length := by
        have := congrArg List.length hx
        rw [List.length_take] at this; omega
      have b1 : abounds l.length l.length (some (.int .i64 (p.length : Int))) none none = some (p.length, l.length, l.length) := abounds_lo hle (Nat.le_refl _)
      have x1 : (bs l).extract p.length l.length = bs (l.drop p.length) := by rw [bs_extract, List.take_of_length_le (Nat.le_refl _)]
      simp [aun, hx, bs_size, b1, x1, trimP]
      rfl
    · simp [aun, hx, trimP]
      rfl
  · rintro v h' ⟨rfl, rfl⟩
    simp
def P2 (s : List UInt8) (i : Nat) : Prop := s[i]? = some 10 ∧ s[i + 1]? = some 10
instance (s : List UInt8) (i : Nat) : Decidable (P2 s i) := inferInstanceAs (Decidable (_ ∧ _))
theorem occ2 (s : List UInt8) (i : Nat) : Lib.occAt s [10, 10] i = decide (P2 s i) := by
  rw [Bool.eq_iff_iff, decide_eq_true_iff]
  unfold Lib.occAt P2
  have h0 : s[i]? = (s.drop i)[0]? := by rw [List.getElem?_drop]; rfl
  have h1 : s[i + 1]? = (s.drop i)[1]? := by rw [List.getElem?_drop]
  rw [h0, h1]
  match s.drop i with
  | [] => simp [List.isPrefixOf]
  | [a] => simp [List.isPrefixOf]
  | a :: b :: r =>
    simp [List.isPrefixOf]
    exact ⟨fun ⟨q1, q2⟩ => ⟨q1.symm, q2.symm⟩, fun ⟨q1, q2⟩ => ⟨q1.symm, q2.symm⟩⟩
theorem min_of {P : Nat → Prop} : ∀ n, P n → ∃ i, i ≤ n ∧ P i ∧ ∀ j, j < i → ¬ P j := fun n => by
  induction n using Nat.strongRecOn with
  | ind n ih =>
    intro hn
    by_cases hx : ∃ j, j < n ∧ P j
    · obtain ⟨j, hj, hp⟩ := hx
      obtain ⟨i, h1, h2, h3⟩ := ih j hj hp
      exact ⟨i, by omega, h2, h3⟩
    · exact ⟨n, Nat.le_refl _, hn, fun j hj hp => hx ⟨j, hj, hp⟩⟩
theorem index2 (s : List UInt8) : (∃ i, P2 s i ∧ (∀ j, j < i → ¬ P2 s j) ∧ Lib.index s [10, 10] = (i : Int)) ∨ ((∀ j, ¬ P2 s j) ∧ Lib.index s [10, 10] = -1) := by
  by_cases hx : ∃ i, P2 s i
  · obtain ⟨n, hn⟩ := hx
    obtain ⟨i, _, h2, h3⟩ := min_of (P := P2 s) n hn
    refine .inl ⟨i, h2, h3, Lib.index_hit (fun j hj => by rw [occ2]; exact decide_eq_false (h3 j hj)) ?_ (by rw [occ2]; exact decide_eq_true h2)⟩
    have := List.getElem?_eq_some_iff.1 h2.1
    obtain ⟨h, _⟩ := this
    omega
  · have hn : ∀ j, ¬ P2 s j := fun j q => hx ⟨j, q⟩
    exact .inr ⟨hn, Lib.index_past (i := s.length) (by simp) (fun j _ => by rw [occ2]; exact decide_eq_false (hn j)) (by simp)⟩
def Cut2 (s : List UInt8) (v : Value) : Prop := (∃ i, P2 s i ∧ (∀ j, j < i → ¬ P2 s j) ∧ v = .tuple #[sv (s.take i), sv (s.drop (i + 2)), .bool true]) ∨ ((∀ j, ¬ P2 s j) ∧ v = .tuple #[sv s, sv [], .bool false])
theorem cut2_ok (s : List UInt8) (hs : s.length ≤ 1000000) (h : Heap) : ACalls Tryz.prog 49 [.string (bs s), .string (bs [10, 10])] h fun v h' => Cut2 s v ∧ h' = h := by
  refine acalls_of mix Tryz.func49 k49 n49 (by simp) fun hcl hb => ?_
  simp [c49]
  refine ACalls.mono (R := fun v h' => Cut2 s v ∧ h' = h) ?_ ?_
  · refine acalls_of mix Tryz.func86 k86 n86 (by simp) fun hcl hb => ?_
    simp [c86]
    refine (index_ok s [10, 10] (by omega) h).mono ?_
    rintro _ h9 ⟨rfl, e⟩
    rw [e]; clear e h9
    rcases index2 s with ⟨i, h1, h2, h3⟩ | ⟨h1, h2⟩
    · rw [h3]
      have hi : i + 2 ≤ s.length := by
        obtain ⟨q, _⟩ := List.getElem?_eq_some_iff.1 h1.2
        omega
      have hs1 : (bs [10, 10]).size = 2 := rfl
      have q1 : IntKind.i64.wrap ((i : Int) + 2) = ((i + 2 : Nat) : Int) := by rw [IntWalk.i64_in _ (by omega)]; omega
      have b1 : abounds s.length s.length none (some (.int .i64 (i : Int))) none = some (0, i, s.length) := abounds_hi (by omega)
      have b2 : abounds s.length s.length (some (.int .i64 ((i + 2 : Nat) : Int))) none none = some (i + 2, s.length, s.length) := abounds_lo hi (Nat.le_refl _)
      have x1 : (bs s).extract 0 i = bs (s.take i) := by rw [bs_extract, List.drop_zero]
      have x2 : (bs s).extract (i + 2) s.length = bs (s.drop (i + 2)) := by rw [bs_extract, List.take_of_length_le (Nat.le_refl _)]
      simp [hs1, bs_size, q1, b1, b2, x1, x2, -Int.natCast_add]
      exact .inl ⟨i, h1, h2, rfl⟩
    · rw [h2]
      simp
      exact .inr ⟨h1, rfl⟩
  · rintro v h' ⟨q, rfl⟩
    rcases q with ⟨i, h1, h2, rfl⟩ | ⟨h1, rfl⟩
    · simp
      exact .inl ⟨i, h1, h2, rfl⟩
    · simp
      exact .inr ⟨h1, rfl⟩

def c29 : AC := .seq (.ops [⟨some 2,none,.mv (.const (.string ⟨⟨[]⟩⟩))⟩,⟨some 3,none,.mv (.const (.string ⟨⟨[]⟩⟩))⟩,⟨some 4,none,.mv (.const (.bool false))⟩]) (.seq (.seq (.ops [⟨some 11,none,.mv (.tmp 0)⟩,⟨some 12,none,.call 65 [.tmp 11,.const (.string ⟨⟨[10]⟩⟩)]⟩,⟨some 10,none,.mv (.tmp 12)⟩,⟨some 13,none,.extr (.tmp 10) 0⟩,⟨some 14,none,.extr (.tmp 10) 1⟩,⟨some 5,none,.mv (.tmp 13)⟩,⟨some 6,none,.mv (.tmp 14)⟩]) (.seq (.ops [⟨some 15,none,.mv (.tmp 6)⟩]) (.cond (.tmp 15) (.seq (.ops [⟨some 16,none,.mv (.tmp 5)⟩,⟨some 2,none,.mv (.const (.string ⟨⟨[10]⟩⟩))⟩,⟨some 3,none,.mv (.tmp 16)⟩,⟨some 4,none,.mv (.const (.bool true))⟩]) .ret) .skip))) (.seq (.ops [⟨some 18,none,.mv (.tmp 0)⟩,⟨some 19,none,.call 49 [.tmp 18,.const (.string ⟨⟨[10,10]⟩⟩)]⟩,⟨some 17,none,.mv (.tmp 19)⟩,⟨some 20,none,.extr (.tmp 17) 0⟩,⟨some 21,none,.extr (.tmp 17) 1⟩,⟨some 22,none,.extr (.tmp 17) 2⟩,⟨some 7,none,.mv (.tmp 20)⟩,⟨some 8,none,.mv (.tmp 21)⟩,⟨some 9,none,.mv (.tmp 22)⟩]) (.seq (.seq (.ops [⟨some 23,none,.mv (.tmp 9)⟩,⟨some 24,none,.un .not (.tmp 23)⟩]) (.cond (.tmp 24) (.seq (.ops [⟨some 25,none,.mv (.tmp 0)⟩,⟨some 2,none,.mv (.tmp 25)⟩,⟨some 3,none,.mv (.const (.string ⟨⟨[]⟩⟩))⟩,⟨some 4,none,.mv (.const (.bool false))⟩]) .ret) .skip)) (.seq (.ops [⟨some 26,none,.mv (.tmp 7)⟩,⟨some 27,none,.bin .add (.tmp 26) (.const (.string ⟨⟨[10,10]⟩⟩))⟩,⟨some 28,none,.mv (.tmp 8)⟩,⟨some 2,none,.mv (.tmp 27)⟩,⟨some 3,none,.mv (.tmp 28)⟩,⟨some 4,none,.mv (.const (.bool true))⟩]) .ret))))
theorem k29 : compF Tryz.prog Tryz.f29 = some (c29, [2, 3, 4]) := by kernel_rfl
theorem n29 : Tryz.f29.ntmps = 29 := by kernel_rfl
def c33_0 : AC := .seq (.seq (.ops [⟨some 6,none,.mv (.tmp 5)⟩,⟨some 7,none,.mv (.tmp 0)⟩,⟨some 8,none,.lenS true (.tmp 7)⟩,⟨some 9,none,.bin .lss (.tmp 6) (.tmp 8)⟩]) (.cond (.tmp 9) .skip (.exit 0))) (.seq (.block 1 (.seq (.ops [⟨some 12,none,.mv (.tmp 0)⟩,⟨some 13,none,.mv (.tmp 5)⟩,⟨some 14,none,.iStr (.tmp 12) (.tmp 13)⟩,⟨some 15,none,.bin .eql (.tmp 14) (.const (.int .u8 10))⟩,⟨some 16,none,.mv (.tmp 15)⟩,⟨some 17,some (16,true),.mv (.tmp 5)⟩,⟨some 18,some (16,true),.bin .eql (.tmp 17) (.const (.int .i64 0))⟩,⟨some 19,some (16,true),.mv (.tmp 18)⟩,⟨some 20,some (19,false),.mv (.tmp 0)⟩,⟨some 21,some (19,false),.mv (.tmp 5)⟩,⟨some 22,some (19,false),.bin .sub (.tmp 21) (.const (.int .i64 1))⟩,⟨some 23,some (19,false),.iStr (.tmp 20) (.tmp 22)⟩,⟨some 24,some (19,false),.bin .eql (.tmp 23) (.const (.int .u8 10))⟩,⟨some 25,some (16,true),.pick (.tmp 19) (.const (.bool true)) (.tmp 24)⟩,⟨some 26,none,.pick (.tmp 16) (.tmp 25) (.const (.bool false))⟩]) (.cond (.tmp 26) (.seq (.draw [([⟨some 27,none,.mv (.tmp 0)⟩,⟨some 28,none,.mv (.tmp 5)⟩,⟨some 29,none,.bin .add (.tmp 28) (.const (.int .i64 1))⟩,⟨some 30,none,.slS (.tmp 27) none (some (.tmp 29))⟩,⟨some 31,none,.mv (.tmp 0)⟩,⟨some 32,none,.mv (.tmp 5)⟩,⟨some 33,none,.bin .add (.tmp 32) (.const (.int .i64 1))⟩,⟨some 34,none,.slS (.tmp 31) (some (.tmp 33)) none⟩,⟨some 2,none,.mv (.tmp 30)⟩,⟨some 3,none,.mv (.tmp 34)⟩,⟨some 4,none,.mv (.const (.bool true))⟩],[],[])]) .ret) .skip))) (.ops [⟨some 10,none,.mv (.tmp 5)⟩,⟨some 11,none,.bin .add (.tmp 10) (.const (.int .i64 1))⟩,⟨some 5,none,.mv (.tmp 11)⟩]))
def c33 : AC := .seq (.ops [⟨some 2,none,.mv (.const (.string ⟨⟨[]⟩⟩))⟩,⟨some 3,none,.mv (.const (.string ⟨⟨[]⟩⟩))⟩,⟨some 4,none,.mv (.const (.bool false))⟩]) (.seq (.seq (.ops [⟨some 5,none,.mv (.const (.int .i64 0))⟩]) (.block 0 (.loop c33_0))) (.seq (.ops [⟨some 35,none,.mv (.tmp 0)⟩,⟨some 2,none,.mv (.tmp 35)⟩,⟨some 3,none,.mv (.const (.string ⟨⟨[]⟩⟩))⟩,⟨some 4,none,.mv (.const (.bool false))⟩]) .ret))
theorem k33 : compF Tryz.prog Tryz.f33 = some (c33, [2, 3, 4]) := by kernel_rfl
theorem n33 : Tryz.f33.ntmps = 36 := by kernel_rfl
variable [Nonempty GM]
structure KS2 where
  i : Nat
def spP (s : List UInt8) (i : Nat) : Prop := s[i]? = some 10 ∧ (i = 0 ∨ s[i - 1]? = some 10)
def SplV (s : List UInt8) (v : Value) : Prop := (∃ i, spP s i ∧ (∀ j, j < i → ¬ spP s j) ∧ v = .tuple #[sv (s.take (i + 1)), sv (s.drop (i + 1)), .bool true]) ∨ ((∀ j, ¬ spP s j) ∧ v = .tuple #[sv s, sv [], .bool false])
theorem SplV.uniq {s : List UInt8} {v w : Value} (a : SplV s v) (b : SplV s w) : v = w := by
  rcases a with ⟨i, h1, h2, rfl⟩ | ⟨h1, rfl⟩ <;> rcases b with ⟨j, k1, k2, rfl⟩ | ⟨k1, rfl⟩
  · have : i = j := by
      rcases Nat.lt_trichotomy i j with q | q | q
      · exact absurd h1 (k2 i q)
      · exact q
      · exact absurd k1 (h2 j q)
    rw [this]
  · exact absurd h1 (k1 i)
  · exact absurd k1 (h1 j)
  · rfl
theorem getI {s : List UInt8} {i : Nat} {c : UInt8} (h : s[i]? = some c) : i < s.length := (List.getElem?_eq_some_iff.1 h).1
theorem take_snoc' {s : List UInt8} {i : Nat} {c : UInt8} (h : s[i]? = some c) : s.take (i + 1) = s.take i ++ [c] := by
  obtain ⟨q, rfl⟩ := List.getElem?_eq_some_iff.1 h
  exact List.take_succ_eq_append_getElem q
theorem mSplit_ok (s : List UInt8) (hs : s.length ≤ 1000000) (h : Heap) : ACalls Tryz.prog 29 [.string (bs s)] h fun v h' => SplV s v ∧ h' = h := by
  refine acalls_of mix Tryz.func29 k29 n29 (by simp) fun hcl hb => ?_
  simp [c29, bs_lit]
  refine (cutP_ok s [10] h).mono ?_
  rintro _ h9 ⟨rfl, e⟩
  rw [e]; clear e h9
  by_cases hx : s.take 1 = [10]
  · have h0 : s[0]? = some 10 := by
      have : (s.take 1)[0]? = some 10 := by rw [hx]; rfl
      rwa [List.getElem?_take_of_lt (by omega)] at this
    have ht : trimP [10] s = s.drop 1 := by unfold trimP; rw [if_pos (by simpa using hx)]; rfl
    simp [hx, ht]
    exact .inl ⟨0, ⟨h0, .inl rfl⟩, fun j hj => absurd hj (Nat.not_lt_zero _), by rw [show (0 : Nat) + 1 = 1 from rfl, hx, List.drop_one]; rfl⟩
  · have h0 : ¬ s[0]? = some 10 := fun q => hx (by rw [take_snoc' q]; rfl)
    simp [hx]
    refine (cut2_ok s hs h).mono ?_
    rintro v h9 ⟨hc, e⟩
    rw [e]; clear e h9
    rcases hc with ⟨i, h1, h2, rfl⟩ | ⟨h1, rfl⟩
    · have hi := getI h1.2
      have htk : s.take (i + 2) = s.take i ++ [10, 10] := by rw [take_snoc' h1.2, take_snoc' h1.1, List.append_assoc]; rfl
      have hsz : i ≤ 9223372036854775805 := by omega
      have hsv : ∀ l, sv l = .string (bs l) := fun _ => rfl
      have hmin : min i s.length = i := by omega
      simp [aun, hsv, bs_size, bs_append, hmin, hsz]
      refine .inl ⟨i + 1, ⟨h1.2, .inr h1.1⟩, fun j hj q => ?_, by rw [show i + 1 + 1 = i + 2 from rfl, htk]; rfl⟩
      rcases Nat.eq_zero_or_pos j with rfl | hp
      · exact h0 q.1
      · have q2 := q.2.resolve_left (by omega)
        exact h2 (j - 1) (by omega) ⟨q2, by rw [Nat.sub_add_cancel hp]; exact q.1⟩
    · simp [aun, bs_lit]
      refine .inr ⟨fun j q => ?_, rfl⟩
      rcases Nat.eq_zero_or_pos j with rfl | hp
      · exact h0 q.1
      · have q2 := q.2.resolve_left (by omega)
        exact h1 (j - 1) ⟨q2, by rw [Nat.sub_add_cancel hp]; exact q.1⟩
theorem vb_tup3 {n : Nat} {a b c : Value} (ha : VBelow n a) (hb : VBelow n b) (hc : VBelow n c) : VBelow n (.tuple #[a, b, c]) := .tuple fun k hk => by
  match k, hk with
  | 0, _ => exact ha
  | 1, _ => exact hb
  | 2, _ => exact hc
theorem splV_below {n : Nat} {s : List UInt8} {v : Value} (h : SplV s v) : VBelow n v := by
  rcases h with ⟨i, _, _, rfl⟩ | ⟨_, rfl⟩
  all_goals exact vb_tup3 .string .string .bool
theorem rSplit_ok (s : List UInt8) (hs : s.length ≤ 1000000) (h : Heap) : ACalls Tryz.prog 33 [.string (bs s)] h fun v h' => SplV s v ∧ h' = h := by
  refine ACalls.same' (fun v q => splV_below q) (acalls_of mix Tryz.func33 k33 n33 (by simp) fun hcl hb => ?_)
  simp only [c33, s_seq, s_ops]
  simp
  refine awp_loop_of (α := KS2) (fun z => z.i ≤ s.length ∧ ∀ j, j < z.i → ¬ spP s j) (fun z => [(0, .string (bs s)), (5, .int .i64 z.i)]) (fun _ => h) (fun z => s.length - z.i) ⟨0⟩
    ⟨Nat.zero_le _, fun j hj => absurd hj (Nat.not_lt_zero _)⟩ (Heap.Sub.refl hcl) (by simp; exact ⟨.string, .int⟩) ?_
  rintro ⟨i⟩ ⟨hi, hno⟩
  dsimp only at hi hno ⊢
  have eH : h.Ext h := Heap.Ext.refl h
  by_cases hlt : i < s.length
  · have hi' : (i : Int) < (s.length : Int) := by omega
    have w4 : IntKind.i64.wrap ((i : Int) + 1) = ((i + 1 : Nat) : Int) := w1 i (by omega)
    have g1 : s[i]? = some s[i] := List.getElem?_eq_getElem hlt
    have iX : aidx (.int .i64 (i : Int)) s.length = some i := aidx_of hlt
    have hnext : ¬ spP s i → ∀ j, j < i + 1 → ¬ spP s j := fun q j hj => by
      by_cases e : j = i
      · subst e; exact q
      · exact hno j (by omega)
    have b1 : abounds s.length s.length none (some (.int .i64 ((i + 1 : Nat) : Int))) none = some (0, i + 1, s.length) := abounds_hi (by omega)
    have b2 : abounds s.length s.length (some (.int .i64 ((i + 1 : Nat) : Int))) none none = some (i + 1, s.length, s.length) := abounds_lo (by omega) (Nat.le_refl _)
    have x1 : (bs s).extract 0 (i + 1) = bs (s.take (i + 1)) := by rw [bs_extract, List.drop_zero]
    have x2 : (bs s).extract (i + 1) s.length = bs (s.drop (i + 1)) := by rw [bs_extract, List.take_of_length_le (Nat.le_refl _)]
    generalize hc : s[i] = c at *
    by_cases h1 : c = 10
    · subst h1
      by_cases h2 : i = 0
      · have hz : (i = 0) = True := eq_true h2
        simp [c33_0, hi', bs_size, bs_data, iX, g1, hc, hz, w4, b1, b2, x1, x2, -Int.natCast_add]
        exact ⟨.inl ⟨i, ⟨g1, .inl h2⟩, hno, rfl⟩, eH⟩
      · have hz : (i = 0) = False := eq_false h2
        have w5 : IntKind.i64.wrap ((i : Int) - 1) = ((i - 1 : Nat) : Int) := by rw [IntWalk.i64_in _ (by omega)]; omega
        have g2 : s[i - 1]? = some (s[i - 1]'(by omega)) := List.getElem?_eq_getElem (by omega)
        have iY : aidx (.int .i64 ((i - 1 : Nat) : Int)) s.length = some (i - 1) := aidx_of (by omega)
        generalize hd : s[i - 1]'(by omega) = d at *
        by_cases h3 : d = 10
        · subst h3
          simp [c33_0, hi', bs_size, bs_data, iX, g1, hc, hz, w5, iY, g2, hd, w4, b1, b2, x1, x2, -Int.natCast_add]
          exact ⟨.inl ⟨i, ⟨g1, .inr g2⟩, hno, rfl⟩, eH⟩
        · have h3' : ¬ (d.toNat : Int) = 10 := fun q => h3 (UInt8.toNat_inj.1 (by show d.toNat = 10; omega))
          have h3'' : ¬ d.toNat = 10 := fun q => h3 (UInt8.toNat_inj.1 q)
          simp [c33_0, hi', bs_size, bs_data, iX, g1, hc, hz, w5, iY, g2, hd, h3, h3', h3'', w4, -Int.natCast_add]
          exact ⟨⟨i + 1⟩, by show s.length - (i + 1) < s.length - i; omega, ⟨by show i + 1 ≤ s.length; omega, hnext fun q => by
            rcases q.2 with q2 | q2
            · exact h2 q2
            · rw [g2] at q2; exact h3 (Option.some.inj q2)⟩, Heap.Sub.refl hcl, .string, rfl, .int⟩
    · have h1' : ¬ (c.toNat : Int) = 10 := fun q => h1 (UInt8.toNat_inj.1 (by show c.toNat = 10; omega))
      have h1'' : ¬ c.toNat = 10 := fun q => h1 (UInt8.toNat_inj.1 q)
      simp [c33_0, hi', bs_size, bs_data, iX, g1, hc, h1, h1', h1'', w4, -Int.natCast_add]
      exact ⟨⟨i + 1⟩, by show s.length - (i + 1) < s.length - i; omega, ⟨by show i + 1 ≤ s.length; omega, hnext fun q => by
        have q2 := q.1
        rw [g1] at q2; exact h1 (Option.some.inj q2)⟩, Heap.Sub.refl hcl, .string, rfl, .int⟩
  · have hie : i = s.length := by omega
    have hi' : ¬ (i : Int) < (s.length : Int) := by omega
    simp [c33_0, hi', bs_size, bs_lit, -Int.natCast_add]
    refine ⟨.inr ⟨fun j q => ?_, rfl⟩, eH⟩
    have := getI q.1
    exact hno j (by omega) q

def c56 : AC := .seq (.ops [⟨some 2,none,.mv (.const (.string ⟨⟨[]⟩⟩))⟩]) (.seq (.ops [⟨some 3,none,.mv (.tmp 0)⟩,⟨some 4,none,.buildS 1 [.string ⟨⟨[]⟩⟩] [(0,1,.const (.string ⟨⟨[]⟩⟩))]⟩,⟨some 5,none,.app 1 16 9 (.tmp 3) (.tmp 4)⟩,⟨some 6,none,.call 28 [.tmp 5,.const (.string ⟨⟨[10]⟩⟩)]⟩,⟨some 2,none,.mv (.tmp 6)⟩]) .ret)
theorem k56 : compF Tryz.prog Tryz.f56 = some (c56, [2]) := by kernel_rfl
theorem n56 : Tryz.f56.ntmps = 7 := by kernel_rfl
def c99 : AC := .seq (.ops [⟨some 4,none,.mv (.const (.string ⟨⟨[]⟩⟩))⟩]) (.seq (.ops [⟨some 5,none,.mv (.tmp 0)⟩,⟨some 6,none,.mv (.tmp 1)⟩,⟨some 7,none,.bin .add (.tmp 6) (.const (.string ⟨⟨[32]⟩⟩))⟩,⟨some 8,none,.call 129 [.tmp 5,.tmp 7]⟩,⟨some 4,none,.mv (.tmp 8)⟩]) .ret)
theorem k99 : compF Tryz.prog Tryz.f99 = some (c99, [4]) := by kernel_rfl
theorem n99 : Tryz.f99.ntmps = 9 := by kernel_rfl
def c24 : AC := .seq (.ops [⟨some 1,none,.box (.tmp 0)⟩,⟨some 2,none,.mv (.const (.string ⟨⟨[]⟩⟩))⟩]) (.seq (.seq (.ops [⟨some 3,none,.load (some 36) (.tmp 1)⟩,⟨some 4,none,.call 55 [.tmp 3]⟩,⟨some 5,none,.un .not (.tmp 4)⟩]) (.cond (.tmp 5) (.seq (.ops [⟨some 2,none,.mv (.const (.string ⟨⟨[]⟩⟩))⟩]) .ret) .skip)) (.seq (.draw [([⟨some 6,none,.fAddr 0 (.tmp 1)⟩,⟨some 7,none,.load (some 3) (.tmp 6)⟩,⟨some 10,none,.fAddr 3 (.tmp 1)⟩,⟨some 11,none,.load none (.tmp 10)⟩,⟨some 14,none,.fAddr 4 (.tmp 1)⟩,⟨some 15,none,.load (some 32) (.tmp 14)⟩],[⟨some 8,none,.call 57 [.tmp 7]⟩],[⟨some 11,none,.load none (.tmp 10)⟩,⟨some 15,none,.load (some 32) (.tmp 14)⟩]),([⟨some 9,none,.bin .add (.const (.string ⟨⟨[118,101,114,115,105,111,110,32]⟩⟩)) (.tmp 8)⟩],[⟨some 12,none,.call 58 [.tmp 11]⟩],[⟨some 15,none,.load (some 32) (.tmp 14)⟩]),([⟨some 13,none,.bin .add (.const (.string ⟨⟨[108,101,110,103,116,104,32]⟩⟩)) (.tmp 12)⟩],[⟨some 16,none,.call 59 [.tmp 15]⟩],[]),([⟨some 17,none,.bin .add (.const (.string ⟨⟨[115,104,97,50,53,54,32]⟩⟩)) (.tmp 16)⟩],[⟨some 18,none,.buildS 5 [.string ⟨⟨[]⟩⟩,.string ⟨⟨[]⟩⟩,.string ⟨⟨[]⟩⟩,.string ⟨⟨[]⟩⟩,.string ⟨⟨[]⟩⟩] [(0,1,.const (.string ⟨⟨[84,82,73,80,84,89,67,72]⟩⟩)),(1,1,.tmp 9),(2,1,.tmp 13),(3,1,.tmp 17),(4,1,.const (.string ⟨⟨[]⟩⟩))]⟩],[]),([],[⟨some 19,none,.call 56 [.tmp 18]⟩],[]),([⟨some 2,none,.mv (.tmp 19)⟩],[],[])]) .ret))
theorem k24 : compF Tryz.prog Tryz.f24 = some (c24, [2]) := by kernel_rfl
theorem n24 : Tryz.f24.ntmps = 20 := by kernel_rfl
variable [Nonempty GM]
theorem sumL_app (A B : List (List UInt8)) : sumL (A ++ B) = sumL A + sumL B := by unfold sumL; rw [List.map_append, List.sum_append]
theorem app_ex {h : Heap} {t esz bytes n k b e : Nat} {cells new : List Value} (hc : h.cellsOf b = some (cells, .ex, e)) (hlen : cells.length = n * esz) (hk : 0 < k) (hnew : new.length = k * esz) (hsm : (n + k) * (bytes + 1) ≤ 1099511627776) :
    aapp h t esz bytes (some ⟨b, 0, none⟩) n n new k = some (.slice (some ⟨h.n, 0, none⟩) (n + k) (n + k), h.push (.cells (cells ++ new) (.loose t) esz)) := by
  have hcut : acut cells 0 (n * esz) = some cells := by rw [← hlen]; exact acut_all cells
  unfold aapp
  dsimp only
  rw [if_pos ⟨hsm, hnew⟩, hc]
  simp only [if_true]
  rw [hcut]
  simp only
  rw [if_neg (by simp [BMode.isLoose]), if_neg (by omega)]
theorem lines_ok (b k : Nat) (L : List (List UInt8)) (h : Heap) (hc : h.cellsOf b = some (L.map sv, .ex, 1)) (hk : L.length = k) (hL : L.length ≤ 100) (hs : sumL L ≤ 100000) :
    ACalls Tryz.prog 56 [.slice (some ⟨b, 0, none⟩) k k] h fun v h' => v = sv (joinB [10] (L ++ [[]])) ∧ h' = h := by
  subst hk
  refine ACalls.same .string (acalls_of mix Tryz.func56 k56 n56 (by simp) fun hcl hb => ?_)
  have hbn := cellsOf_lt hcl hc
  have fil : afill [.string (bs [])] [(0, 1, .string (bs []))] = some [sv []] := rfl
  have hbl : ∀ n, ∀ x ∈ [sv []], VBelow n x := fun n x hx => by rw [List.mem_singleton.1 hx]; exact .string
  have c1 : (h.push (.cells [sv []] .ex 1)).Closed := closed_push hcl (hbl _)
  have e1 := (Heap.Ext.refl h).push hcl (.cells [sv []] .ex 1)
  have f1 := cellsOf_new h [sv []] .ex 1
  have fb : (h.push (.cells [sv []] .ex 1)).cellsOf b = some (L.map sv, .ex, 1) := by rw [cellsOf_ne (by omega)]; exact hc
  have happ := app_ex (t := 9) (esz := 1) (bytes := 16) (n := L.length) (k := 1) (new := [sv []]) fb (by simp) Nat.one_pos rfl (by omega)
  have hfst : afirst (h.push (.cells [sv []] .ex 1)) 1 1 (.slice (some ⟨h.n, 0, none⟩) 1 1) = some [sv []] := by
    simp only [afirst, f1, if_true]; rfl
  have e2 := e1.push hcl (.cells (L.map sv ++ [sv []]) (.loose 9) 1)
  have hmm : L.map sv ++ [sv []] = (L ++ [[]]).map sv := by simp
  have hj : SlJ ((h.push (.cells [sv []] .ex 1)).push (.cells (L.map sv ++ [sv []]) (.loose 9) 1)) (.slice (some ⟨h.n + 1, 0, none⟩) (L.length + 1) (L.length + 1)) (L ++ [[]]) := by
    refine ⟨h.n + 1, 0, L.length + 1, L.map sv ++ [sv []], .loose 9, 1, by simp, cellsOf_new (h.push (.cells [sv []] .ex 1)) _ _ _, fun _ => rfl, by simp, by simp, fun i hi => ?_⟩
    rw [Nat.zero_add, hmm, List.getElem?_map, List.getElem?_eq_getElem hi]; rfl
  rw [push_n] at happ
  simp only [c56]
  simp [fil, alen, hfst, happ, bs_lit]
  refine (join_ok _ (L ++ [[]]) [10] _ hj (by simp) (by simp) (by rw [sumL_app]; simp [sumL]; unfold sumL at hs; omega)).mono ?_
  rintro _ h9 ⟨rfl, e⟩
  rw [e]; clear e h9
  simp [sv]
  exact e2
theorem field_ok (l n : List UInt8) (hn : n.length ≤ 100) (h : Heap) : ACalls Tryz.prog 99 [.string (bs l), .string (bs n)] h fun v h' => v = sv (trimP (n ++ [32]) l) ∧ h' = h := by
  refine acalls_of mix Tryz.func99 k99 n99 (by simp) fun hcl hb => ?_
  have hs1 : n.length ≤ 9223372036854775806 := by omega
  simp [c99, bs_lit, bs_size, bs_append, hs1]
  refine (trimP_ok l (n ++ [32]) h).mono ?_
  rintro _ h9 ⟨rfl, e⟩
  rw [e]; clear e h9
  simp
def mL (x : Hd) : List (List UInt8) := [[84, 82, 73, 80, 84, 89, 67, 72], [118, 101, 114, 115, 105, 111, 110, 32] ++ vtext x.a x.b x.c, [108, 101, 110, 103, 116, 104, 32] ++ itoaB x.n, [115, 104, 97, 50, 53, 54, 32] ++ hexB x.hs, []]
def mText (x : Hd) : List UInt8 := joinB [10] (mL x ++ [[]])
theorem vtext_len {a b c : Int} (hv : vOk a b c) : (vtext a b c).length ≤ 17 := by
  unfold vOk at hv
  have l1 := ndig_small (u := a.toNat) (k := 5) (by omega) (by omega) (by omega)
  have l2 := ndig_small (u := b.toNat) (k := 5) (by omega) (by omega) (by omega)
  have l3 := ndig_small (u := c.toNat) (k := 5) (by omega) (by omega) (by omega)
  simp [vtext, dec_len]
  omega
theorem right_v {x : Hd} (h : rightH x) : vOk x.a x.b x.c ∧ (0 ≤ x.n ∧ x.n ≤ 16777215) := by
  have h0 := h.1 0 (by omega)
  have h1 := h.1 1 (by omega)
  have h2 := h.1 2 (by omega)
  exact ⟨⟨h0, h1, h2⟩, h.2⟩
theorem mL_len {x : Hd} (hx : x.hs.length = 32) (h : rightH x) : sumL (mL x) ≤ 130 := by
  obtain ⟨h1, h2⟩ := right_v h
  have l1 := vtext_len h1
  have l2 := (itoaB_len x.n (by omega) (by omega)).2
  simp [mL, sumL, hexB_len, hx]
  omega
theorem hc_len {x : Hd} (hx : x.hs.length = 32) : (hc x).length = 36 := by simp [hc, ubs_len, hx]
theorem mTextF_ok (x : Hd) (hx : x.hs.length = 32) (h : Heap) : ACalls Tryz.prog 24 [hv x] h fun v h' => v = sv (if rightH x then mText x else []) ∧ h' = h := by
  refine ACalls.same .string (acalls_of mix Tryz.func24 k24 n24 (by simp) fun hcl hb => ?_)
  have f0 := cellsOf_new h (hc x) .ex 1
  have e0 := (Heap.Ext.refl h).push hcl (.cells (hc x) .ex 1)
  have c0 : (h.push (.cells (hc x) .ex 1)).Closed := closed_push hcl hc_bel
  have hac : acut (hc x) 0 36 = some (hc x) := acut_full (hc_len hx)
  have g3 := hc3 x
  have g4 := hc_cut32 x hx
  have g0 : acut (hc x) 0 3 = some (iv x.a x.b x.c) := hc_cut3 x
  simp only [c24, s_seq, s_ops]
  simp [m_hv, m_hc, f0, hac, apart, bs_lit]
  generalize h.push (.cells (hc x) .ex 1) = H at *
  refine (hright_ok x H).mono ?_
  rintro _ h9 ⟨rfl, e⟩
  rw [e]; clear e h9
  by_cases hR : rightH x
  · obtain ⟨hv1, hn1⟩ := right_v hR
    have lv := vtext_len hv1
    have ln := (itoaB_len x.n (by omega) (by omega)).2
    have lh : (hexB x.hs).length = 64 := by rw [hexB_len, hx]
    have fil : afill [.string (bs []), .string (bs []), .string (bs []), .string (bs []), .string (bs [])] [(0, 1, .string (bs [84, 82, 73, 80, 84, 89, 67, 72])), (1, 1, .string (bs (118 :: 101 :: 114 :: 115 :: 105 :: 111 :: 110 :: 32 :: vtext x.a x.b x.c))), (2, 1, .string (bs (108 :: 101 :: 110 :: 103 :: 116 :: 104 :: 32 :: itoaB x.n))), (3, 1, .string (bs (115 :: 104 :: 97 :: 50 :: 53 :: 54 :: 32 :: hexB x.hs))), (4, 1, .string (bs []))] = some ((mL x).map sv) := rfl
    have b1 : 8 + (vtext x.a x.b x.c).length ≤ 9223372036854775807 := by omega
    have b2 : 7 + (itoaB x.n).length ≤ 9223372036854775807 := by omega
    have b3 : 7 + (hexB x.hs).length ≤ 9223372036854775807 := by omega
    have hsm := mL_len hx hR
    have f1 := cellsOf_new H ((mL x).map sv) .ex 1
    have e1 := e0.push hcl (.cells ((mL x).map sv) .ex 1)
    simp [aun, hR, f0, g0, g3, g4, apart, bs_lit]
    refine (verText_ok x.a x.b x.c H).mono ?_
    rintro _ h9 ⟨rfl, e⟩
    rw [e]; clear e h9
    rw [if_pos hv1]
    simp [f0, g3, g4, apart, bs_lit, bs_size, bs_append, b1]
    refine (itoa_ok x.n (by omega) (by omega) H).mono ?_
    rintro _ h9 ⟨rfl, e⟩
    rw [e]; clear e h9
    simp [f0, g3, g4, apart, bs_lit, bs_size, bs_append, b2]
    refine (hex_ok x.hs hx H).mono ?_
    rintro _ h9 ⟨rfl, e⟩
    rw [e]; clear e h9
    simp [f0, g3, g4, apart, bs_lit, bs_size, bs_append, b3, fil]
    refine (lines_ok H.n 5 (mL x) _ f1 rfl (by show 5 ≤ 100; omega) (by omega)).mono ?_
    rintro _ h9 ⟨rfl, e⟩
    rw [e]; clear e h9
    simp
    exact ⟨rfl, e1⟩
  · simp [aun, hR, bs_lit]
    exact ⟨rfl, e0⟩

def c66 : AC := .seq (.ops [⟨some 2,none,.alloc z36⟩,⟨some 3,none,.mv (.const (.int .i64 0))⟩]) (.seq (.seq (.ops [⟨some 6,none,.mv (.tmp 0)⟩,⟨some 7,none,.lenS true (.tmp 6)⟩,⟨some 8,none,.bin .gtr (.tmp 7) (.const (.int .i64 160))⟩]) (.cond (.tmp 8) (.seq (.ops [⟨some 9,none,.build z36 []⟩,⟨none,none,.store 36 (.tmp 2) (.tmp 9)⟩,⟨some 3,none,.mv (.const (.int .i64 12))⟩]) .ret) .skip)) (.seq (.ops [⟨some 10,none,.mv (.tmp 0)⟩,⟨some 11,none,.call 48 [.tmp 10,.const (.string ⟨⟨[10]⟩⟩)]⟩,⟨some 12,none,.buildS 4 [.string ⟨⟨[]⟩⟩,.string ⟨⟨[]⟩⟩,.string ⟨⟨[]⟩⟩,.string ⟨⟨[]⟩⟩] [(0,1,.const (.string ⟨⟨[]⟩⟩)),(1,1,.const (.string ⟨⟨[]⟩⟩)),(2,1,.const (.string ⟨⟨[]⟩⟩)),(3,1,.const (.string ⟨⟨[]⟩⟩))]⟩,⟨some 13,none,.app 1 16 9 (.tmp 11) (.tmp 12)⟩,⟨some 4,none,.mv (.tmp 13)⟩]) (.seq (.ops [⟨some 5,none,.alloc z36⟩]) (.seq (.ops [⟨some 15,none,.mv (.tmp 4)⟩,⟨some 16,none,.iAddrS 1 (.tmp 15) (.const (.int .i64 1))⟩,⟨some 17,none,.load none (.tmp 16)⟩,⟨some 18,none,.call 99 [.tmp 17,.const (.string ⟨⟨[118,101,114,115,105,111,110]⟩⟩)]⟩,⟨some 19,none,.call 98 [.tmp 18]⟩,⟨some 14,none,.mv (.tmp 19)⟩,⟨some 20,none,.extr (.tmp 14) 0⟩,⟨some 21,none,.extr (.tmp 14) 1⟩,⟨some 22,none,.fAddr 0 (.tmp 5)⟩,⟨none,none,.store 3 (.tmp 22) (.tmp 20)⟩]) (.seq (.ops [⟨some 24,none,.mv (.tmp 4)⟩,⟨some 25,none,.iAddrS 1 (.tmp 24) (.const (.int .i64 2))⟩,⟨some 26,none,.load none (.tmp 25)⟩,⟨some 27,none,.call 99 [.tmp 26,.const (.string ⟨⟨[108,101,110,103,116,104]⟩⟩)]⟩,⟨some 28,none,.call 50 [.tmp 27]⟩,⟨some 23,none,.mv (.tmp 28)⟩,⟨some 29,none,.extr (.tmp 23) 0⟩,⟨some 30,none,.extr (.tmp 23) 1⟩,⟨some 31,none,.fAddr 3 (.tmp 5)⟩,⟨none,none,.store 1 (.tmp 31) (.tmp 29)⟩]) (.seq (.ops [⟨some 33,none,.mv (.tmp 4)⟩,⟨some 34,none,.iAddrS 1 (.tmp 33) (.const (.int .i64 3))⟩,⟨some 35,none,.load none (.tmp 34)⟩,⟨some 36,none,.call 99 [.tmp 35,.const (.string ⟨⟨[115,104,97,50,53,54]⟩⟩)]⟩,⟨some 37,none,.call 100 [.tmp 36]⟩,⟨some 32,none,.mv (.tmp 37)⟩,⟨some 38,none,.extr (.tmp 32) 0⟩,⟨some 39,none,.extr (.tmp 32) 1⟩,⟨some 40,none,.fAddr 4 (.tmp 5)⟩,⟨none,none,.store 32 (.tmp 40) (.tmp 38)⟩]) (.seq (.seq (.ops [⟨some 41,none,.mv (.tmp 0)⟩,⟨some 42,none,.bin .eql (.tmp 41) (.const (.string ⟨⟨[]⟩⟩))⟩,⟨some 43,none,.mv (.tmp 42)⟩,⟨some 44,some (43,false),.load (some 36) (.tmp 5)⟩,⟨some 45,some (43,false),.call 24 [.tmp 44]⟩,⟨some 46,some (43,false),.mv (.tmp 0)⟩,⟨some 47,some (43,false),.bin .neq (.tmp 45) (.tmp 46)⟩,⟨some 48,none,.pick (.tmp 43) (.const (.bool true)) (.tmp 47)⟩]) (.cond (.tmp 48) (.seq (.ops [⟨some 49,none,.build z36 []⟩,⟨none,none,.store 36 (.tmp 2) (.tmp 49)⟩,⟨some 3,none,.mv (.const (.int .i64 6))⟩]) .ret) .skip)) (.seq (.ops [⟨some 50,none,.load (some 36) (.tmp 5)⟩,⟨none,none,.store 36 (.tmp 2) (.tmp 50)⟩,⟨some 3,none,.mv (.const (.int .i64 0))⟩]) .ret))))))))
theorem k66 : compR Tryz.prog Tryz.f66 = some (c66, [.c 2 (some 36), .t 3]) := by kernel_rfl
theorem n66 : Tryz.f66.ntmps = 51 := by kernel_rfl
variable [Nonempty GM]
theorem store3 {a b c n : Int} {l : List UInt8} : aput (hc ⟨a, b, c, 0, l⟩) 3 [.int .i64 n] = hc ⟨a, b, c, n, l⟩ := rfl
theorem copy32 {a b c n : Int} {l l' : List UInt8} (h : l.length = 32) (h' : l'.length = 32) : aput (hc ⟨a, b, c, n, l⟩) 4 (ubs l') = hc ⟨a, b, c, n, l'⟩ := by
  unfold aput hc
  rw [ubs_len, h', List.drop_eq_nil_of_le (by simp [ubs_len, h]), List.append_nil]
  rfl
theorem hexB_get : ∀ (D : List UInt8) (i : Nat), i < D.length → (hexB D).getD (2 * i) 0 = dg ((D.getD i 0).toNat / 16) ∧ (hexB D).getD (2 * i + 1) 0 = dg ((D.getD i 0).toNat % 16)
  | [], _, h => by simp at h
  | x :: r, 0, _ => ⟨rfl, rfl⟩
  | x :: r, i + 1, h => by
    have ih := hexB_get r i (by simpa using h)
    have e1 : hexB (x :: r) = [dg (x.toNat / 16), dg (x.toNat % 16)] ++ hexB r := rfl
    have e2 : (x :: r).getD (i + 1) 0 = r.getD i 0 := rfl
    rw [e1, e2, ← ih.1, ← ih.2]
    constructor
    · rw [List.getD, List.getD, List.getElem?_append_right (by simp; omega)]
      congr 2
    · rw [List.getD, List.getD, List.getElem?_append_right (by simp; omega)]
      congr 2
theorem pB_hex (D : List UInt8) : ∀ i, i ≤ D.length → pB (hexB D) i = D.take i
  | 0, _ => by simp [pB]
  | i + 1, h => by
    have g := hexB_get D i (by omega)
    have hc := (D.getD i 0).toNat_lt
    have p1 := pv_dg ⟨(D.getD i 0).toNat / 16, by omega⟩
    have p2 := pv_dg ⟨(D.getD i 0).toNat % 16, by omega⟩
    simp only at p1 p2
    rw [pB, pB_hex D i (by omega), g.1, g.2, p1, p2, List.take_succ_eq_append_getElem (by omega)]
    congr 2
    have : D.getD i 0 = D[i] := by rw [List.getD, List.getElem?_eq_getElem (by omega)]; rfl
    rw [← this]
    simp only [Int.toNat_natCast]
    rw [Nat.div_add_mod]
    simp
theorem parse_hex (D : List UInt8) (hD : D.length = 32) : parseV (hexB D) = (D, true) := by
  have hok : hexOk (hexB D) := by
    refine ⟨by rw [hexB_len, hD], fun i hi => ?_⟩
    have g := hexB_get D (i / 2) (by omega)
    have hc := (D.getD (i / 2) 0).toNat_lt
    rcases Nat.mod_two_eq_zero_or_one i with q | q
    · rw [show 2 * (i / 2) = i by omega] at g
      have p1 := pv_dg ⟨(D.getD (i / 2) 0).toNat / 16, by omega⟩
      simp only at p1
      rw [g.1, p1]; omega
    · rw [show 2 * (i / 2) + 1 = i by omega] at g
      have p1 := pv_dg ⟨(D.getD (i / 2) 0).toNat % 16, by omega⟩
      simp only at p1
      rw [g.2, p1]; omega
  unfold parseV
  rw [if_pos hok, pB_hex D 32 (by omega), List.take_of_length_le (by omega)]
theorem split_join (c : UInt8) : ∀ (r : List (List UInt8)) (a : List UInt8), c ∉ a → (∀ x ∈ r, c ∉ x) → splitB c (joinB [c] (a :: r)) = a :: r
  | [], a, ha, _ => by
    show splitB c (a ++ []) = _
    rw [List.append_nil, split_none ha]
  | b :: r, a, ha, hr => by
    have ih := split_join c r b (hr b (by simp)) (fun x hx => hr x (by simp [hx]))
    have : joinB [c] (a :: b :: r) = a ++ c :: joinB [c] (b :: r) := by simp [joinB]
    rw [this, split_at ha, ih]
theorem hexB_no10 (D : List UInt8) : (10 : UInt8) ∉ hexB D := fun q => by
  unfold hexB at q
  obtain ⟨b, _, hb⟩ := List.mem_flatMap.1 q
  simp only [List.mem_cons, List.not_mem_nil, or_false] at hb
  have hbn := b.toNat_lt
  have key : ∀ k, k < 16 → (10 : UInt8) ≠ dg k := fun k hk => by
    have : ∀ j : Fin 16, (10 : UInt8) ≠ dg j.val := by decide
    exact this ⟨k, hk⟩
  rcases hb with hb | hb
  · exact key _ (by omega) hb
  · exact key _ (by omega) hb
theorem dec_no10 (u : Nat) : (10 : UInt8) ∉ dec u := fun q => by
  have := dec_dig u 10 q
  unfold isDig at this
  have h : (10 : UInt8).toNat = 10 := rfl
  omega
theorem itoaB_no10 (n : Int) : (10 : UInt8) ∉ itoaB n := by
  unfold itoaB
  split
  · simp only [List.mem_cons, not_or]
    exact ⟨by decide, dec_no10 _⟩
  · exact dec_no10 _
theorem vtext_no10 (a b c : Int) : (10 : UInt8) ∉ vtext a b c := by
  unfold vtext
  simp only [List.mem_append, List.mem_cons, not_or]
  exact ⟨dec_no10 _, by decide, dec_no10 _, by decide, dec_no10 _⟩
theorem mL_no10 (x : Hd) : ∀ l ∈ mL x, (10 : UInt8) ∉ l := fun l hl => by
  simp only [mL, List.mem_cons, List.not_mem_nil, or_false] at hl
  have h1 := vtext_no10 x.a x.b x.c
  have h2 := itoaB_no10 x.n
  have h3 := hexB_no10 x.hs
  rcases hl with rfl | rfl | rfl | rfl | rfl
  · decide
  · simp only [List.mem_append, not_or]; exact ⟨by decide, h1⟩
  · simp only [List.mem_append, not_or]; exact ⟨by decide, h2⟩
  · simp only [List.mem_append, not_or]; exact ⟨by decide, h3⟩
  · decide
theorem mText_split (x : Hd) : splitB 10 (mText x) = mL x ++ [[]] := by
  have h := mL_no10 x
  show splitB 10 (joinB [10] (_ :: _)) = _
  refine split_join 10 _ _ (h _ (by simp [mL])) fun l hl => ?_
  have : l ∈ mL x ++ [[]] := List.mem_cons_of_mem _ hl
  rcases List.mem_append.1 this with q | q
  · exact h l q
  · rw [List.mem_singleton.1 q]; simp
theorem itoaB_inj {a b : Int} (ha : 0 ≤ a ∧ a ≤ 16777215) (hb : 0 ≤ b ∧ b ≤ 16777215) (h : itoaB a = itoaB b) : a = b := by
  rw [itoaB_dec a ha.1, itoaB_dec b hb.1] at h
  have := dec_inj (by omega) (by omega) h
  omega
theorem mText_inj {x y : Hd} (hx : x.hs.length = 32) (hy : y.hs.length = 32) (rx : rightH x) (ry : rightH y) (h : mText x = mText y) : x = y := by
  have h1 := mText_split x
  rw [h, mText_split y] at h1
  obtain ⟨vx, nx⟩ := right_v rx
  obtain ⟨vy, ny⟩ := right_v ry
  simp only [mL, List.cons_append, List.nil_append, List.cons.injEq, true_and, and_true] at h1
  obtain ⟨e1, e2, e3⟩ := h1
  have q1 := vtext_inj vy vx e1
  have q2 := itoaB_inj ny nx e2
  have q3 : y.hs = x.hs := by
    have := parse_hex y.hs hy
    rw [e3, parse_hex x.hs hx] at this
    exact (congrArg Prod.fst this).symm
  obtain ⟨xa, xb, xc, xn, xh⟩ := x
  obtain ⟨ya, yb, yc, yn, yh⟩ := y
  simp only at q1 q2 q3
  simp [q1.1, q1.2.1, q1.2.2, q2, q3]
theorem mText_ne (x : Hd) : mText x ≠ [] := fun q => by
  have := mText_split x
  rw [q] at this
  simp [splitB, mL] at this
theorem mText_len {x : Hd} (hx : x.hs.length = 32) (h : rightH x) : (mText x).length ≤ 140 := by
  have h1 := mL_len hx h
  have key : ∀ a r, (joinB [10] (a :: r)).length = a.length + (1 * r.length + sumL r) := fun a r => by
    show (a ++ r.flatMap fun x => [10] ++ x).length = _
    rw [List.length_append, flatM_len]; rfl
  show (joinB [10] (_ :: _)).length ≤ 140
  rw [key]
  simp [sumL, mL] at h1 ⊢
  omega
def PM (s : List UInt8) (v : Value) : Prop := (∀ y : Hd, rightH y → y.hs.length = 32 → s = mText y → v = .tuple #[hv y, .int .i64 0]) ∧
  ((∀ y : Hd, rightH y → y.hs.length = 32 → s ≠ mText y) → v = .tuple #[hv zH, .int .i64 (if 160 < s.length then 12 else 6)])
theorem PM.below {s : List UInt8} {v : Value} {n : Nat} (h : PM s v) : VBelow n v := by
  by_cases hx : ∃ y : Hd, rightH y ∧ y.hs.length = 32 ∧ s = mText y
  · obtain ⟨y, h1, h2, h3⟩ := hx
    rw [h.1 y h1 h2 h3]
    exact vb_tup2 hv_below .int
  · rw [h.2 fun y h1 h2 h3 => hx ⟨y, h1, h2, h3⟩]
    exact vb_tup2 hv_below .int
theorem trimP_self (p l : List UInt8) : trimP p (p ++ l) = l := by
  unfold trimP
  rw [if_pos (by simp), List.drop_left]
theorem trimP_len (p l : List UInt8) : (trimP p l).length ≤ l.length := by
  unfold trimP
  split
  · rw [List.length_drop]; omega
  · omega
structure LinesOf (s : List UInt8) (x : Hd) : Prop where
  hs : x.hs.length = 32
  eq : ∀ y : Hd, rightH y → y.hs.length = 32 → s = mText y → x = y
theorem rv3_get {q : List UInt8} {v g b : Value} (h : RV3 q v g b) : ∃ x y z r, v = .tuple #[.agg (iv x y z).toArray, r] ∧ ∀ x' y' z', vOk x' y' z' → q = vtext x' y' z' → x = x' ∧ y = y' ∧ z = z' := by
  by_cases hx : ∃ x y z, vOk x y z ∧ q = vtext x y z
  · obtain ⟨x, y, z, h1, h2⟩ := hx
    exact ⟨x, y, z, g, h.1 x y z h1 h2, fun x' y' z' k1 k2 => vtext_inj h1 k1 (h2.symm.trans k2)⟩
  · exact ⟨0, 0, 0, b, h.2 fun x y z h1 h2 => hx ⟨x, y, z, h1, h2⟩, fun x' y' z' k1 k2 => absurd ⟨x', y', z', k1, k2⟩ hx⟩
theorem mcI (k : IntKind) (n : Int) : mcells (.int k n) = some [.int k n] := rfl
theorem put3 {a b c : Int} : aput (hc zH) 0 (iv a b c) = hc ⟨a, b, c, 0, z32⟩ := rfl
theorem mParse_ok (s : List UInt8) (hs : s.length ≤ 1000000) (h : Heap) : ACalls Tryz.prog 66 [.string (bs s)] h fun v h' => PM s v ∧ h' = h := by
  refine ACalls.same' (fun v q => q.below) (acalls_ofR mix Tryz.func66 k66 n66 (by simp) fun hcl hb => ?_)
  have hzl : zH.hs.length = 32 := z32_len
  have f0 := cellsOf_new h (hc zH) .ex 1
  have e0 := (Heap.Ext.refl h).push hcl (.cells (hc zH) .ex 1)
  have c0 : (h.push (.cells (hc zH) .ex 1)).Closed := closed_push hcl hc_bel
  have hac : ∀ x : Hd, x.hs.length = 32 → acut (hc x) 0 36 = some (hc x) := fun x hx => acut_full (hc_len hx)
  have hfz : afill (hc zH) [] = some (hc zH) := rfl
  have hlz := hc_len hzl
  have hpz : aput (hc zH) 0 (hc zH) = hc zH := by
    unfold aput
    rw [hlz, List.drop_eq_nil_of_le (by rw [hlz]; omega)]
    simp
  simp only [c66, s_seq, s_ops]
  simp [z36_eq, bs_size, bs_lit]
  by_cases h160 : 160 < s.length
  · have h160' : (160 : Int) < (s.length : Int) := by omega
    simp [h160', hfz, m_hc, hlz, f0, cellsOf_set, set_push, hpz, hac zH hzl, apart]
    refine ⟨⟨fun y r1 r2 r3 => ?_, fun _ => by rw [if_pos h160]; rfl⟩, e0⟩
    have := mText_len r2 r1
    rw [r3] at h160; omega
  · have h160' : ¬ (160 : Int) < (s.length : Int) := by omega
    have w5 : s.count 10 ≤ s.length := List.count_le_length
    simp [h160']
    refine (splitS_ok s 10 _ hs).mono ?_
    rintro _ h9 ⟨rfl, e⟩
    rw [e]; clear e h9
    have hsl := split_len 10 s
    generalize hM : s.count 10 = M at *
    have hspl := split_le 10 s
    have f2 := cellsOf_new (h.push (.cells (hc zH) .ex 1)) ((splitB 10 s).map sv) .ex 1
    have f0' : ((h.push (.cells (hc zH) .ex 1)).push (.cells ((splitB 10 s).map sv) .ex 1)).cellsOf h.n = some (hc zH, .ex, 1) := by rw [cellsOf_ne (by show ¬ h.n = h.n + 1; omega)]; exact f0
    have hbs : ∀ n, ∀ x ∈ (splitB 10 s).map sv, VBelow n x := fun n x hx => by obtain ⟨y, _, rfl⟩ := List.mem_map.1 hx; exact .string
    have c1 := closed_push c0 (o := .cells ((splitB 10 s).map sv) .ex 1) (hbs _)
    have e1 := e0.push hcl (.cells ((splitB 10 s).map sv) .ex 1)
    have n1 : ((h.push (.cells (hc zH) .ex 1)).push (.cells ((splitB 10 s).map sv) .ex 1)).n = h.n + 2 := rfl
    have hinj : ∀ y : Hd, rightH y → y.hs.length = 32 → s = mText y → splitB 10 s = mL y ++ [[]] := fun y _ _ q => by rw [q]; exact mText_split y
    rw [push_n] at f2 ⊢
    generalize splitB 10 s = L at *
    generalize (h.push (.cells (hc zH) .ex 1)).push (.cells (L.map sv) .ex 1) = H1 at *
    have fil4 : afill [.string (bs []), .string (bs []), .string (bs []), .string (bs [])] [(0, 1, .string (bs [])), (1, 1, .string (bs [])), (2, 1, .string (bs [])), (3, 1, .string (bs []))] = some [sv [], sv [], sv [], sv []] := rfl
    have hb4 : ∀ n, ∀ x ∈ [sv [], sv [], sv [], sv []], VBelow n x := fun n x hx => by
      simp at hx; rw [hx]; exact .string
    have c2 := closed_push c1 (o := .cells [sv [], sv [], sv [], sv []] .ex 1) (hb4 _)
    have e2 := e1.push hcl (.cells [sv [], sv [], sv [], sv []] .ex 1)
    have f4 := cellsOf_new H1 [sv [], sv [], sv [], sv []] .ex 1
    have f2' : (H1.push (.cells [sv [], sv [], sv [], sv []] .ex 1)).cellsOf (h.n + 1) = some (L.map sv, .ex, 1) := by rw [cellsOf_ne (by omega)]; exact f2
    have f0'' : (H1.push (.cells [sv [], sv [], sv [], sv []] .ex 1)).cellsOf h.n = some (hc zH, .ex, 1) := by rw [cellsOf_ne (by omega)]; exact f0'
    have happ := app_ex (t := 9) (esz := 1) (bytes := 16) (n := M + 1) (k := 4) (new := [sv [], sv [], sv [], sv []]) f2' (by rw [List.length_map, hsl]; omega) (by omega) rfl (by omega)
    have hfst : afirst (H1.push (.cells [sv [], sv [], sv [], sv []] .ex 1)) 1 4 (.slice (some ⟨H1.n, 0, none⟩) 4 4) = some [sv [], sv [], sv [], sv []] := by
      simp only [afirst, f4, if_true]; rfl
    have hLm : L.map sv ++ [sv [], sv [], sv [], sv []] = (L ++ [[], [], [], []]).map sv := by simp
    have hLL : (L ++ [[], [], [], []]).length = M + 1 + 4 := by simp; omega
    have hgt : ∀ i (hi : i < M + 1 + 4), (L.map sv ++ [sv [], sv [], sv [], sv []])[i]? = some (.string (bs ((L ++ [[], [], [], []])[i]'(by omega)))) := fun i hi => by
      rw [hLm, List.getElem?_map, List.getElem?_eq_getElem (by omega)]; rfl
    have hpl : ∀ i (hi : i < M + 1 + 4), ((L ++ [[], [], [], []])[i]'(by omega)).length ≤ s.length := fun i hi => by
      have := List.getElem_mem (l := L ++ [[], [], [], []]) (n := i) (by omega)
      rcases List.mem_append.1 this with q | q
      · exact hspl _ q
      · simp at q; rw [q]; simp
    have q1 := hgt 1 (by omega)
    have q2 := hgt 2 (by omega)
    have q3 := hgt 3 (by omega)
    have l1 := hpl 1 (by omega)
    have l2 := hpl 2 (by omega)
    have l3 := hpl 3 (by omega)
    have i1 : aidx (.int .i64 1) (M + 1 + 4) = some 1 := aidx_of (i := 1) (by omega)
    have i2 : aidx (.int .i64 2) (M + 1 + 4) = some 2 := aidx_of (i := 2) (by omega)
    have i3 : aidx (.int .i64 3) (M + 1 + 4) = some 3 := aidx_of (i := 3) (by omega)
    have hp : ∀ y : Hd, rightH y → y.hs.length = 32 → s = mText y → (L ++ [[], [], [], []])[1]'(by omega) = [118, 101, 114, 115, 105, 111, 110, 32] ++ vtext y.a y.b y.c ∧ (L ++ [[], [], [], []])[2]'(by omega) = [108, 101, 110, 103, 116, 104, 32] ++ itoaB y.n ∧ (L ++ [[], [], [], []])[3]'(by omega) = [115, 104, 97, 50, 53, 54, 32] ++ hexB y.hs := fun y r1 r2 r3 => by
      have := hinj y r1 r2 r3
      subst this
      exact ⟨rfl, rfl, rfl⟩
    generalize (L ++ [[], [], [], []])[1]'(by omega) = p1 at *
    generalize (L ++ [[], [], [], []])[2]'(by omega) = p2 at *
    generalize (L ++ [[], [], [], []])[3]'(by omega) = p3 at *
    simp [bs_lit, fil4, alen, hfst, happ]
    generalize hCC : L.map sv ++ [sv [], sv [], sv [], sv []] = CC at *
    have hbC : ∀ n, ∀ x ∈ CC, VBelow n x := fun n x hx => by
      rw [← hCC] at hx
      rcases List.mem_append.1 hx with q | q
      · obtain ⟨y, _, rfl⟩ := List.mem_map.1 q; exact .string
      · exact hb4 n x q
    have n2 : (H1.push (.cells [sv [], sv [], sv [], sv []] .ex 1)).n = H1.n + 1 := rfl
    generalize H1.push (.cells [sv [], sv [], sv [], sv []] .ex 1) = H2 at *
    have c3 := closed_push c2 (o := .cells CC (.loose 9) 1) (hbC _)
    have e3 := e2.push hcl (.cells CC (.loose 9) 1)
    have fC := cellsOf_new H2 CC (.loose 9) 1
    have f03 : (H2.push (.cells CC (.loose 9) 1)).cellsOf h.n = some (hc zH, .ex, 1) := by rw [cellsOf_ne (by omega)]; exact f0''
    have n3 : (H2.push (.cells CC (.loose 9) 1)).n = H2.n + 1 := rfl
    generalize H2.push (.cells CC (.loose 9) 1) = H3 at *
    have n4 : H3.n = H1.n + 1 + 1 := by omega
    have fC4 : ∀ o, (H3.push o).cellsOf (H1.n + 1) = some (CC, .loose 9, 1) := fun o => by rw [cellsOf_ne (by omega), ← n2]; exact fC
    have f04 : ∀ o, (H3.push o).cellsOf h.n = some (hc zH, .ex, 1) := fun o => by rw [cellsOf_ne (by omega)]; exact f03
    have f5 : ∀ x : Hd, (H3.push (.cells (hc x) .ex 1)).cellsOf (H1.n + 1 + 1) = some (hc x, .ex, 1) := fun x => cellsOf_at n4.symm _ _ _
    have sp : ∀ o o', (H3.push o).set (H1.n + 1 + 1) o' = H3.push o' := fun o o' => set_at n4.symm _ _
    have l36 : ∀ x : Hd, x.hs.length = 32 → (hc x).length = 36 := fun x hx => hc_len hx
    simp [fC4, f5, q1, i1, apart, n2, n3, -Int.natCast_add]
    refine (field_ok p1 [118, 101, 114, 115, 105, 111, 110] (by simp) _).mono ?_
    rintro _ h9 ⟨rfl, e⟩
    rw [e]; clear e h9
    have lt1 := trimP_len ([118, 101, 114, 115, 105, 111, 110] ++ [32]) p1
    generalize hw1 : trimP ([118, 101, 114, 115, 105, 111, 110] ++ [32]) p1 = u1 at *
    have hsv : ∀ l, sv l = .string (bs l) := fun _ => rfl
    simp [hsv]
    refine (verParse_ok u1 (by omega) _).mono ?_
    rintro v1 h9 ⟨hv1, e⟩
    rw [e]; clear e h9
    obtain ⟨a, b, c, r, rfl, hk1⟩ := rv3_get hv1
    have hl3 : ∀ x y z, (iv x y z).length = 3 := fun _ _ _ => rfl
    simp [f5, sp, mc_iv, hl3, hlz, put3, fC4, q2, i2, apart, n2, n3, n4, -Int.natCast_add]
    refine (field_ok p2 [108, 101, 110, 103, 116, 104] (by simp) _).mono ?_
    rintro _ h9 ⟨rfl, e⟩
    rw [e]; clear e h9
    have lt2 := trimP_len ([108, 101, 110, 103, 116, 104] ++ [32]) p2
    generalize hw2 : trimP ([108, 101, 110, 103, 116, 104] ++ [32]) p2 = u2 at *
    simp [hsv]
    refine (atoi_ok u2 (by omega) _).mono ?_
    rintro v2 h9 ⟨⟨⟨n, r2, rfl, _, _⟩, hv2⟩, e⟩
    rw [e]; clear e h9
    have hl0 := l36 ⟨a, b, c, 0, z32⟩ hzl
    simp [f5, sp, mcI, hl0, store3, fC4, q3, i3, apart, n2, n3, n4, -Int.natCast_add]
    refine (field_ok p3 [115, 104, 97, 50, 53, 54] (by simp) _).mono ?_
    rintro _ h9 ⟨rfl, e⟩
    rw [e]; clear e h9
    generalize hw3 : trimP ([115, 104, 97, 50, 53, 54] ++ [32]) p3 = u3 at *
    simp [hsv]
    refine (parse_ok u3 _).mono ?_
    rintro _ h9 ⟨rfl, e⟩
    rw [e]; clear e h9
    have hpl3 := parseV_len u3
    have hul : (ubs (parseV u3).1).length = 32 := by rw [ubs_len]; exact hpl3
    have hl1 := l36 ⟨a, b, c, n, z32⟩ hzl
    have hcp := copy32 (a := a) (b := b) (c := c) (n := n) z32_len hpl3
    have hx : LinesOf s ⟨a, b, c, n, (parseV u3).1⟩ := ⟨hpl3, fun y r1 r2 r3 => by
      obtain ⟨e1, e2, e3⟩ := hp y r1 r2 r3
      obtain ⟨ry, ny⟩ := right_v r1
      have k1 := hk1 y.a y.b y.c ry (by rw [← hw1, e1]; exact trimP_self _ _)
      have k2 := hv2 y.n (by omega) (by omega) (by rw [← hw2, e2]; exact trimP_self _ _)
      simp only [Value.tuple.injEq, List.toArray_inj, Array.mk.injEq, List.cons.injEq, Value.int.injEq, true_and] at k2
      have k3 : parseV u3 = (y.hs, true) := by
        have : trimP ([115, 104, 97, 50, 53, 54] ++ [32]) ([115, 104, 97, 50, 53, 54, 32] ++ hexB y.hs) = hexB y.hs := trimP_self _ _
        rw [← hw3, e3, this]; exact parse_hex y.hs r2
      obtain ⟨ya, yb, yc, yn, yh⟩ := y
      rw [k3]
      simp only at k1 k2 ⊢
      rw [k1.1, k1.2.1, k1.2.2, k2.1]⟩
    simp [f5, sp, m_ubs, hul, hl1, hcp, bs_eq_dec, n2, n3, n4, -Int.natCast_add]
    generalize hX : (⟨a, b, c, n, (parseV u3).1⟩ : Hd) = x at *
    have e4 := e3.push hcl (.cells (hc x) .ex 1)
    have hxl := hx.hs
    have hxe := hx.eq
    clear hx
    have lx := l36 x hxl
    have hax := hac x hxl
    have eS : ∀ o, h.Ext ((H3.push (.cells (hc x) .ex 1)).set h.n o) := fun o => Heap.Ext.setNew e4 hcl (Nat.le_refl _) o
    have hpx : ∀ z : Hd, z.hs.length = 32 → aput (hc zH) 0 (hc z) = hc z := fun z hz => by
      unfold aput
      rw [l36 z hz, List.drop_eq_nil_of_le (by rw [hlz]; omega)]
      simp
    have hbad : (∀ y : Hd, rightH y → y.hs.length = 32 → s ≠ mText y) → PM s (.tuple #[hv zH, .int .i64 6]) := fun q => ⟨fun y r1 r2 r3 => absurd r3 (q y r1 r2), fun _ => by rw [if_neg h160]⟩
    by_cases hs0 : s = []
    · have hno : ∀ y : Hd, rightH y → y.hs.length = 32 → s ≠ mText y := fun y _ _ q => mText_ne y (by rw [← q]; exact hs0)
      simp [hs0, hfz, m_hc, hlz, f04, cellsOf_set, hpz, hac zH hzl, apart, n2, n3, n4, -Int.natCast_add]
      subst hs0
      exact ⟨hbad hno, eS _⟩
    · simp [hs0, f5, hax, apart, n2, n3, n4, -Int.natCast_add]
      refine (mTextF_ok x hxl _).mono ?_
      rintro _ h9 ⟨rfl, e⟩
      rw [e]; clear e h9
      by_cases heq : (if rightH x then mText x else []) = s
      · have hR : rightH x := by
          by_cases q : rightH x
          · exact q
          · rw [if_neg q] at heq; exact absurd heq.symm hs0
        rw [if_pos hR] at heq
        simp [hsv, hR, heq, f5, hax, m_hc, lx, hlz, f04, cellsOf_set, hpx x hxl, apart, n2, n3, n4, -Int.natCast_add]
        refine ⟨⟨fun y r1 r2 r3 => ?_, fun q => absurd heq.symm (q x hR hxl)⟩, eS _⟩
        rw [← hxe y r1 r2 r3]; rfl
      · have hno : ∀ y : Hd, rightH y → y.hs.length = 32 → s ≠ mText y := fun y r1 r2 r3 => by
          have := hxe y r1 r2 r3
          subst this
          rw [if_pos r1] at heq
          exact heq r3.symm
        simp [hsv, bs_eq_dec, heq, hfz, m_hc, hlz, f04, cellsOf_set, hpz, hac zH hzl, apart, n2, n3, n4, -Int.natCast_add]
        exact ⟨hbad hno, eS _⟩

variable [Nonempty GM]
theorem ubs_eqL : ∀ a b : List UInt8, a.length = b.length → aeqL (ckl a.length) (ubs a) (ubs b) = some (decide (a = b))
  | [], [], _ => rfl
  | [], _ :: _, h => by simp at h
  | _ :: _, [], h => by simp at h
  | x :: a, y :: b, h => by
    have ih := ubs_eqL a b (by simpa using h)
    show (match aeqC .i (.int .u8 (x.toNat : Int)) (.int .u8 (y.toNat : Int)), aeqL (ckl a.length) (ubs a) (ubs b) with | some a, some b => some (a && b) | _, _ => none) = _
    rw [ih]
    have h1 : ((x.toNat : Int) = (y.toNat : Int)) ↔ x = y := ⟨fun q => UInt8.toNat_inj.1 (by omega), fun q => by rw [q]⟩
    simp only [aeqC, if_true, Option.some.injEq, h1]
    by_cases h2 : x = y <;> by_cases h3 : a = b <;> simp [h2, h3]
theorem hc_dec {x y : Hd} (hx : x.hs.length = 32) (hy : y.hs.length = 32) : aeqL (ckl 36) (hc x) (hc y) = some (decide (x = y)) := by
  have h := ubs_eqL x.hs y.hs (by rw [hx, hy])
  rw [hx] at h
  obtain ⟨xa, xb, xc, xn, xh⟩ := x
  obtain ⟨ya, yb, yc, yn, yh⟩ := y
  show aeqL (.i :: .i :: .i :: .i :: ckl 32) (.int .i64 xa :: .int .i64 xb :: .int .i64 xc :: .int .i64 xn :: ubs xh) (.int .i64 ya :: .int .i64 yb :: .int .i64 yc :: .int .i64 yn :: ubs yh) = _
  simp only [aeqL, aeqC, if_true] at h ⊢
  rw [h]
  simp only [Option.some.injEq]
  by_cases q1 : xa = ya <;> by_cases q2 : xb = yb <;> by_cases q3 : xc = yc <;> by_cases q4 : xn = yn <;> by_cases q5 : xh = yh <;> simp [q1, q2, q3, q4, q5]
theorem sp_word {w r : List UInt8} (hw : w ≠ []) (h10 : (10 : UInt8) ∉ w) (j : Nat) : spP (w ++ 10 :: r) j ↔ ∃ k, j = w.length + 1 + k ∧ spP r k := by
  have hlen : 0 < w.length := by cases w with | nil => exact absurd rfl hw | cons a b => simp
  have hin : ∀ i, i < w.length → (w ++ 10 :: r)[i]? ≠ some 10 := fun i hi q => by
    rw [List.getElem?_append_left hi] at q
    exact h10 (List.mem_of_getElem? q)
  have hat : (w ++ 10 :: r)[w.length]? = some 10 := by rw [List.getElem?_append_right (Nat.le_refl _), Nat.sub_self]; rfl
  have hpast : ∀ k, (w ++ 10 :: r)[w.length + 1 + k]? = r[k]? := fun k => by
    rw [List.getElem?_append_right (by omega), show w.length + 1 + k - w.length = k + 1 by omega]; rfl
  constructor
  · rintro ⟨h1, h2⟩
    by_cases q1 : j < w.length
    · exact absurd h1 (hin j q1)
    · by_cases q2 : j = w.length
      · subst q2
        rcases h2 with h2 | h2
        · omega
        · exact absurd h2 (hin _ (by omega))
      · refine ⟨j - w.length - 1, by omega, ?_, ?_⟩
        · rw [← hpast, show w.length + 1 + (j - w.length - 1) = j by omega]; exact h1
        · by_cases q3 : j = w.length + 1
          · exact .inl (by omega)
          · refine .inr ?_
            rcases h2 with h2 | h2
            · omega
            · rw [← hpast, show w.length + 1 + (j - w.length - 1 - 1) = j - 1 by omega]; exact h2
  · rintro ⟨k, rfl, h1, h2⟩
    refine ⟨by rw [hpast]; exact h1, .inr ?_⟩
    rcases h2 with rfl | h2
    · exact hat
    · by_cases q : k = 0
      · subst q; exact hat
      · rw [show w.length + 1 + k - 1 = w.length + 1 + (k - 1) by omega, hpast]; exact h2
theorem mText_eq (x : Hd) (s : List UInt8) : mText x ++ s = [84, 82, 73, 80, 84, 89, 67, 72] ++ 10 :: (([118, 101, 114, 115, 105, 111, 110, 32] ++ vtext x.a x.b x.c) ++ 10 :: (([108, 101, 110, 103, 116, 104, 32] ++ itoaB x.n) ++ 10 :: (([115, 104, 97, 50, 53, 54, 32] ++ hexB x.hs) ++ 10 :: (10 :: s)))) := by
  simp [mText, mL, joinB]
theorem mText_sp (x : Hd) (s : List UInt8) : spP (mText x ++ s) ((mText x).length - 1) ∧ ∀ j, j < (mText x).length - 1 → ¬ spP (mText x ++ s) j := by
  have hno := mL_no10 x
  have n1 := hno [84, 82, 73, 80, 84, 89, 67, 72] (by simp [mL])
  have n2 := hno ([118, 101, 114, 115, 105, 111, 110, 32] ++ vtext x.a x.b x.c) (by simp [mL])
  have n3 := hno ([108, 101, 110, 103, 116, 104, 32] ++ itoaB x.n) (by simp [mL])
  have n4 := hno ([115, 104, 97, 50, 53, 54, 32] ++ hexB x.hs) (by simp [mL])
  have hL := congrArg List.length (mText_eq x [])
  rw [List.append_nil] at hL
  simp only [List.length_append, List.length_cons, List.length_nil] at hL
  rw [mText_eq]
  constructor
  · rw [sp_word (by simp) n1]
    refine ⟨(mText x).length - 1 - 9, by simp; omega, ?_⟩
    rw [sp_word (by simp) n2]
    refine ⟨(mText x).length - 1 - 9 - (9 + (vtext x.a x.b x.c).length), by simp; omega, ?_⟩
    rw [sp_word (by simp) n3]
    refine ⟨(mText x).length - 1 - 9 - (9 + (vtext x.a x.b x.c).length) - (8 + (itoaB x.n).length), by simp; omega, ?_⟩
    rw [sp_word (by simp) n4]
    refine ⟨0, by simp; omega, rfl, .inl rfl⟩
  · intro j hj q
    rw [sp_word (by simp) n1] at q
    obtain ⟨k1, e1, q⟩ := q
    rw [sp_word (by simp) n2] at q
    obtain ⟨k2, e2, q⟩ := q
    rw [sp_word (by simp) n3] at q
    obtain ⟨k3, e3, q⟩ := q
    rw [sp_word (by simp) n4] at q
    obtain ⟨k4, e4, q⟩ := q
    simp only [List.length_append, List.length_cons, List.length_nil] at e1 e2 e3 e4
    omega
theorem mText_pos (x : Hd) : 2 ≤ (mText x).length := by
  have hL := congrArg List.length (mText_eq x [])
  rw [List.append_nil] at hL
  simp only [List.length_append, List.length_cons, List.length_nil] at hL
  omega
theorem mText_splV (x : Hd) (s : List UInt8) {v : Value} (h : SplV (mText x ++ s) v) : v = .tuple #[sv (mText x), sv s, .bool true] := by
  have hp := mText_pos x
  obtain ⟨h1, h2⟩ := mText_sp x s
  refine h.uniq (.inl ⟨_, h1, h2, ?_⟩)
  rw [show (mText x).length - 1 + 1 = (mText x).length by omega, List.take_left, List.drop_left]
variable [Nonempty GM]
section
open Go.RowKit Go.ChangeShapes Go.WideShapes
variable {H : Type} {P : Program} {W : World} {enc : TypeId × Value → H}
end
end Go.Proofs.YtofoihlcjmghfaaGreatDoor.manf

