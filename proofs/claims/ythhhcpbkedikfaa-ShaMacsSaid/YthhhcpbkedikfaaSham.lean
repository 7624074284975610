/-
  Contracts.
-/
import Derived.Test.YthhhcpbkedikfaaShap
import Derived.Test.YthhhcpbkedikfaaShas
import Derived.Test.YthhhcpbkedikfaaShaw
import Derived.Test.YthhhcpbkedikfaaShar
import Derived.Test.YthhhcpbkedikfaaHead
import Derived.Test.YthhhcpbkedikfaaSha
import Derived.Test.YthhhcpbkedikfaaNum
import Derived.Test.YthhhcpbkedikfaaAbEnter
import Derived.Test.YthhhcpbkedikfaaProg
import Derived.IntWalk
import Derived.KernelRfl
set_option linter.unusedSimpArgs false
set_option linter.unusedVariables false
namespace Go.Proofs.Ythhhcpbkedikfaa.sham
open Go Go.Ab Go.Proofs Go.RowKit Go.Proofs.Ythhhcpbkedikfaa.num Go.Proofs.Ythhhcpbkedikfaa.sha Go.Proofs.Ythhhcpbkedikfaa.head Go.Proofs.Ythhhcpbkedikfaa.shar Go.Proofs.Ythhhcpbkedikfaa.shaw Go.Proofs.Ythhhcpbkedikfaa.shas Go.Proofs.Ythhhcpbkedikfaa.shap
set_option maxRecDepth 100000
attribute [local simp] s_ops s_seq s_cond s_cond_t s_cond_f s_block s_exit s_ret s_skip s_then_n s_then_n' s_then_e s_then_e' s_then_r s_then_r' s_block_n s_block_r s_block_e s_post_r s_post_n s_res0 s_res1 s_res2 s_res3 s_res4 s_nil s_cons s_guard s_guard_tt s_guard_ff s_guard_tf s_guard_ft s_guard_u s_call s_kL s_put s_put0 s_set s_tmp s_const s_func s_init s_mkF s_mkF0 s_mv s_bin s_pick s_op aop oK_some oK_none bK_some bK_none b_add b_sub b_mul b_quo b_rem b_and b_or b_xor b_andNot b_shl b_shr b_eql b_neq b_lss b_leq b_gtr b_geq b_sadd b_seql b_sneq b_slss b_sleq b_sgtr b_sgeq s_draw s_stage s_stage0 s_kW s_kR s_rc0 s_rc s_rcg rK_some rK_none rG_b rG_u s_callv s_callv_f s_nextM s_postR_r s_postR_n s_resA0 s_resAt s_resAc s_resC s_tup0 s_tup1 s_tup2 s_tup3
theorem y_wrap (n : Nat) (h : n < 256) : IntKind.u8.wrap (n : Int) = (n : Int) := by
  unfold IntKind.wrap
  simp [IntKind.bits, IntKind.signed]
  omega
theorem y_ofInt (c : UInt8) : BitVec.ofInt 8 (c.toNat : Int) = c.toBitVec := by simp
theorem y_xor (a b : UInt8) : abits .xor .u8 (a.toNat : Int) (b.toNat : Int) = ((a ^^^ b).toNat : Int) := by
  unfold abits
  have e : (BitVec.ofInt 8 (a.toNat : Int) ^^^ BitVec.ofInt 8 (b.toNat : Int)).toNat = (a ^^^ b).toNat := by rw [y_ofInt, y_ofInt]; rfl
  show IntKind.u8.wrap (((BitVec.ofInt 8 (a.toNat : Int) ^^^ BitVec.ofInt 8 (b.toNat : Int)).toNat : Nat) : Int) = _
  rw [e, y_wrap _ (a ^^^ b).toNat_lt]
theorem y_or (a b : UInt8) : abits .or .u8 (a.toNat : Int) (b.toNat : Int) = ((a ||| b).toNat : Int) := by
  unfold abits
  have e : (BitVec.ofInt 8 (a.toNat : Int) ||| BitVec.ofInt 8 (b.toNat : Int)).toNat = (a ||| b).toNat := by rw [y_ofInt, y_ofInt]; rfl
  show IntKind.u8.wrap (((BitVec.ofInt 8 (a.toNat : Int) ||| BitVec.ofInt 8 (b.toNat : Int)).toNat : Nat) : Int) = _
  rw [e, y_wrap _ (a ||| b).toNat_lt]
theorem ubs_get {l : List UInt8} {i : Nat} (h : i < l.length) : (ubs l)[i]? = some (.int .u8 (l[i].toNat : Int)) := by
  unfold ubs
  simp only [List.getElem?_map, List.getElem?_eq_getElem h]
  rfl
/-- the first i bytes turned -/
def xoT (P : List UInt8) (x : UInt8) (i : Nat) : List UInt8 := (P.take i).map (· ^^^ x) ++ P.drop i
theorem xoT_len (P : List UInt8) (x : UInt8) (i : Nat) : (xoT P x i).length = P.length := by
  unfold xoT
  simp
  omega
theorem xoT_get (P : List UInt8) (x : UInt8) (i : Nat) (h : i < P.length) : (xoT P x i)[i]'(by rw [xoT_len]; exact h) = P[i] := by
  unfold xoT
  rw [List.getElem_append_right (by simp; omega)]
  simp [show min i P.length = i by omega]
theorem xoT_succ (P : List UInt8) (x : UInt8) (i : Nat) (h : i < P.length) : aput (ubs (xoT P x i)) i [.int .u8 ((P[i] ^^^ x).toNat : Int)] = ubs (xoT P x (i + 1)) := by
  have hl : ((P.take i).map (· ^^^ x)).length = i := by simp; omega
  have e1 : ubs (xoT P x i) = ubs ((P.take i).map (· ^^^ x)) ++ ubs (P.drop i) := by unfold xoT; rw [ubs_app]
  have e2 : ubs (xoT P x (i + 1)) = ubs ((P.take i).map (· ^^^ x)) ++ (ubs [P[i] ^^^ x] ++ ubs (P.drop (i + 1))) := by
    unfold xoT
    rw [List.take_succ_eq_append_getElem h, List.map_append, ubs_app, ubs_app, List.append_assoc]
    rfl
  have hl2 : (ubs ((P.take i).map (· ^^^ x))).length = i := by rw [ubs_len, hl]
  have ed : P.drop i = P[i] :: P.drop (i + 1) := List.drop_eq_getElem_cons h
  rw [e1, e2]
  unfold aput
  rw [List.take_append_of_le_length (by omega), List.take_of_length_le (by omega), List.append_assoc]
  congr 1
  have ed2 : ubs (P.drop i) = eb P[i] :: ubs (P.drop (i + 1)) := by rw [ed]; rfl
  rw [ed2, List.drop_append, List.drop_of_length_le (by rw [hl2]; simp), hl2]
  simp [ubs, eb]
/-- a key's block -/
def keyB (K : List UInt8) : List UInt8 := K ++ List.replicate (64 - K.length) 0
theorem keyB_len (K : List UInt8) (h : K.length ≤ 64) : (keyB K).length = 64 := by
  unfold keyB
  simp
  omega
theorem keyB_put (K : List UInt8) (h : K.length ≤ 64) : aput (zl .u8 64) 0 (ubs K) = ubs (keyB K) := by
  unfold keyB aput zl
  rw [ubs_app, ubs_len]
  simp only [List.take_zero, List.nil_append, Nat.zero_add, List.drop_replicate]
  congr 1
  unfold ubs
  rw [List.map_replicate]
  rfl
theorem pad_ok (K : List UInt8) (x : UInt8) (hK : K.length ≤ 64) (h : Heap) : ACalls Try.prog 114 [.string (bs K), .int .u8 (x.toNat : Int)] h fun v h' => v = .string (bs ((keyB K).map (· ^^^ x))) ∧ h' = h := by
  refine ACalls.same .string (acalls_of mix Try.func114 k114 n114 (by simp) fun hcl hb => ?_)
  have hP := keyB_len K hK
  have hput := keyB_put K hK
  have hz : (List.replicate 64 [Value.int .u8 0]).flatten = zl .u8 64 := rfl
  have hsf := strFirst (h.push (.cells (zl .u8 64) .ex 1)) K
  have hf0 := cellsOf_new h (zl .u8 64) .ex 1
  have hmin : min K.length 64 = K.length := by omega
  have hzl := zl_len .u8 64
  have hul := ubs_len K
  simp only [c114, s_seq, s_ops]
  simp [hz, bs_lit, -List.reduceReplicate]
  unfold enS at hsf
  simp [alen, bs_size, hmin, hsf, hf0, hzl, hul, hK, hput, set_at, -List.reduceReplicate]
  generalize hP0 : keyB K = P at *
  have hcl0 : ∀ i, (h.push (.cells (ubs (xoT P x i)) .ex 1)).Closed := fun i => closed_push hcl ubs_bel
  have h00 : xoT P x 0 = P := by unfold xoT; simp
  refine awp_loop_of (α := Nat) (fun i => i ≤ 64)
    (fun i => [(1, .int .u8 (x.toNat : Int)), (5, .slice (some ⟨h.n, 0, none⟩) 64 64), (12, .int .i64 64), (13, .int .i64 i)]) (fun i => h.push (.cells (ubs (xoT P x i)) .ex 1)) (fun i => 64 - i) 0
    (Nat.zero_le _) (by rw [h00]; exact ⟨Nat.le_succ _, Nat.le_refl _, fun _ _ e => e, by have := hcl0 0; rwa [h00] at this⟩) (by simp; exact ⟨.int, vb_slice (Nat.lt_succ_self _), .int, .int⟩) ?_
  intro i hi
  have hfi := cellsOf_new h (ubs (xoT P x i)) .ex 1
  have hxl := xoT_len P x i
  by_cases hi6 : i < 64
  · have hi' : (i : Int) < 64 := by omega
    have hg : (ubs (xoT P x i))[i]? = some (.int .u8 (P[i].toNat : Int)) := by rw [ubs_get (by omega), xoT_get P x i (by omega)]
    have hst := xoT_succ P x i (by omega)
    have e1 : IntKind.i64.wrap ((i : Int) + 1) = ((i + 1 : Nat) : Int) := by rw [IntWalk.i64_in _ (by omega)]; omega
    have hlt : i < (ubs (xoT P x i)).length := by rw [ubs_len]; omega
    have hg' : (ubs (xoT P x i))[i] = .int .u8 (P[i].toNat : Int) := by simpa [List.getElem?_eq_getElem hlt] using hg
    have hlt1 : i + 1 ≤ (ubs (xoT P x i)).length := hlt
    simp [c114_0, hg', hlt1, hi', aidx_of hi6, hfi, apart, hg, y_xor, mcells, hlt, hst, set_at, e1, -Int.natCast_add, -UInt8.toNat_xor]
    exact ⟨i + 1, by omega, by omega, ⟨Nat.le_succ _, Nat.le_refl _, fun _ _ e => e, hcl0 _⟩, .int, vb_slice (Nat.lt_succ_self _), .int, rfl, .int⟩
  · have hie : i = 64 := by omega
    subst hie
    have hx64 : xoT P x 64 = P.map (· ^^^ x) := by unfold xoT; rw [List.take_of_length_le (by omega), List.drop_of_length_le (by omega), List.append_nil]
    have hcut : acut (ubs (xoT P x 64)) 0 64 = some (ubs (xoT P x 64)) := acut_full (by rw [ubs_len]; omega)
    rw [hx64] at hfi hcut
    simp [c114_0, afirst, hfi, hcut, abytes_ubs, bs_mk, hx64]
    exact (Heap.Ext.refl h).push hcl _
structure BL where
  i : Nat
  H : Heap
  nm : Option Nat
  v : Value
theorem refBytes_ok (D : List UInt8) (hD : D.length = 32) (h : Heap) : ACalls Try.prog 115 [.agg (ubs D).toArray] h fun v h' => v = .string (bs D) ∧ h' = h := by
  refine ACalls.same .string (acalls_of mix Try.func115 k115 n115 (by simp) fun hcl hb => ?_)
  have hul : (ubs D).length = 32 := by rw [ubs_len, hD]
  have hc1 : (h.push (.cells (ubs D) .ex 1)).Closed := closed_push hcl ubs_bel
  have g1 : Gr h (h.push (.cells (ubs D) .ex 1)) := (Gr.refl hcl).push ubs_bel
  have f1 := cellsOf_new h (ubs D) .ex 1
  have fil0 : afill [] [] = some ([] : List Value) := rfl
  simp only [c115, s_seq, s_ops]
  simp [m_ubs, bs_lit, fil0]
  have hn1 : (h.push (.cells (ubs D) .ex 1)).n = h.n + 1 := rfl
  generalize h.push (.cells (ubs D) .ex 1) = H1 at *
  have l1 := LAt.made H1 1
  have g2 : Gr H1 (H1.push (.cells [] .ex 1)) := (Gr.refl hc1).push (fun x hx => by cases hx)
  refine awp_loop_of (α := BL) (fun z => z.i ≤ 32 ∧ Gr H1 z.H ∧ LAt z.H 1 z.nm z.v z.i (ubs (D.take z.i)) ∧ ∀ y, z.nm = some y → H1.n ≤ y)
    (fun z => [(1, .pointer (some ⟨h.n, 0, none⟩)), (3, z.v), (4, .int .i64 z.i)]) (fun z => z.H) (fun z => 32 - z.i) ⟨0, H1.push (.cells [] .ex 1), some H1.n, .slice (some ⟨H1.n, 0, none⟩) 0 0⟩
    ⟨Nat.zero_le _, g2, l1, fun y e => by cases e; exact Nat.le_refl _⟩ ⟨by have := g2.n; show h.n ≤ (H1.push _).n; omega, Nat.le_refl _, fun _ _ e => e, g2.cl⟩ (by simp; exact ⟨.ptr (by show h.n < H1.n + 1; omega), l1.below g2.cl, .int⟩) ?_
  rintro ⟨i, H, nm, v⟩ ⟨hi, g, l, hnm⟩
  dsimp only at hi g l hnm ⊢
  have fH := cellsOf_keep g.m f1
  obtain ⟨a0, rfl⟩ := l.form
  by_cases hi3 : i < 32
  · have hi' : (i : Int) < 32 := by omega
    have hlt : i < (ubs D).length := by rw [ubs_len]; omega
    have hg' : (ubs D)[i] = .int .u8 (D[i].toNat : Int) := by
      have := ubs_get (l := D) (i := i) (by omega)
      simpa [List.getElem?_eq_getElem hlt] using this
    have hlt1 : i + 1 ≤ (ubs D).length := hlt
    have fil : ∀ c : UInt8, afill [.int .u8 0] [(0, 1, .int .u8 (c.toNat : Int))] = some (ubs [c]) := fun _ => rfl
    have e1 : IntKind.i64.wrap ((i : Int) + 1) = ((i + 1 : Nat) : Int) := by rw [IntWalk.i64_in _ (by omega)]; omega
    have htl : (D.take i).length = i := by rw [List.length_take]; omega
    have htk : D.take (i + 1) = D.take i ++ [D[i]] := List.take_succ_eq_append_getElem (by omega)
    have lb := lat_byte (l := D.take i) g.cl (by rw [htl]; exact l) D[i] (by omega)
    rw [htl] at lb
    obtain ⟨a, q, a2, H2, happ, l2, keep2, n2, c2⟩ := lb
    cases q
    rw [← htk] at l2
    have hub1 : ubs [D[i]] = [eb D[i]] := rfl
    have haf : afirst (H.push (.cells [eb D[i]] .ex 1)) 1 1 (.slice (some ⟨H.n, 0, none⟩) 1 1) = some [eb D[i]] := by
      simp [afirst, cellsOf_new, acut]
    simp [c115_0, hi', aidx_of hi3, fH, apart, hg', hlt1, hlt, fil, hub1, alen, haf, happ, e1, -Int.natCast_add]
    have g3 : Gr H1 H2 := ⟨by have := g.n; omega, c2, fun y ob e => keep2 y ob (g.m y ob e) (fun q => by have := hnm y q; have := (hc1 y ob e).1; omega)⟩
    exact ⟨⟨i + 1, H2, some (H.n + 1), _⟩, by show 32 - (i + 1) < 32 - i; omega, ⟨by show i + 1 ≤ 32; omega, g3, l2, fun y e => by cases e; have := g.n; omega⟩, ⟨by have := g3.n; show h.n ≤ H2.n; omega, Nat.le_refl _, fun _ _ e => e, c2⟩, .ptr (by have := g3.n; show h.n < H2.n; omega), ⟨rfl, l2.below c2⟩, rfl, .int⟩
  · have hie : i = 32 := by omega
    subst hie
    rw [List.take_of_length_le (by omega)] at l
    have sl : Sl eb H (.slice a0 32 32) D := LAt.sl (n := 32) l
    obtain ⟨b, o, cap, cs, m, e, hv, hcl2, hle, hin, hgt⟩ : ∃ b o cap cs m e, Value.slice a0 32 32 = .slice (some ⟨b, o, none⟩) D.length cap ∧ H.cellsOf b = some (cs, m, e) ∧ D.length ≤ cap ∧ (0 < D.length → o + D.length ≤ cs.length) ∧ ∀ i (hi : i < D.length), cs[o + i]? = some (eb D[i]) := by
      rcases sl with ⟨_, _, q⟩ | q
      · rw [q] at hD; cases hD
      · exact q
    have hf : afirst H 1 32 (.slice a0 32 32) = some (ubs D) := by
      have := sl_first sl (by omega)
      rw [hD] at this
      exact this
    simp only [Value.slice.injEq] at hv
    obtain ⟨rfl, -, -⟩ := hv
    simp [c115_0, hf, abytes_ubs, bs_mk]
    exact g1.ext.trans g.ext
/-- or'd from the left -/
def orN (D E : List UInt8) : Nat → UInt8
  | 0 => 0
  | i + 1 => orN D E i ||| (D.getD i 0 ^^^ E.getD i 0)
theorem orN_zero (D E : List UInt8) : ∀ i, orN D E i = 0 ↔ ∀ j, j < i → D.getD j 0 = E.getD j 0
  | 0 => by simp [orN]
  | i + 1 => by
    have ih := orN_zero D E i
    have h1 : orN D E (i + 1) = 0 ↔ orN D E i = 0 ∧ (D.getD i 0 ^^^ E.getD i 0) = 0 := by
      show (orN D E i ||| (D.getD i 0 ^^^ E.getD i 0)) = 0 ↔ _
      generalize orN D E i = p
      generalize D.getD i 0 ^^^ E.getD i 0 = q
      simp [UInt8.or_eq_zero_iff]
    have h2 : (D.getD i 0 ^^^ E.getD i 0) = 0 ↔ D.getD i 0 = E.getD i 0 := by simp
    rw [h1, h2, ih]
    constructor
    · rintro ⟨q1, q2⟩ j hj
      by_cases e : j = i
      · rw [e]; exact q2
      · exact q1 j (by omega)
    · exact fun q => ⟨fun j hj => q j (by omega), q i (by omega)⟩
theorem orN_eq {D E : List UInt8} (hD : D.length = 32) (hE : E.length = 32) : orN D E 32 = 0 ↔ D = E := by
  rw [orN_zero]
  constructor
  · intro q
    refine List.ext_getElem (by omega) fun i h1 h2 => ?_
    have := q i (by omega)
    simpa [List.getD, List.getElem?_eq_getElem h1, List.getElem?_eq_getElem h2] using this
  · rintro rfl j _
    rfl
theorem equal_ok (D E : List UInt8) (hD : D.length = 32) (hE : E.length = 32) (h : Heap) : ACalls Try.prog 81 [.agg (ubs D).toArray, .agg (ubs E).toArray] h fun v h' => v = .bool (decide (D = E)) ∧ h' = h := by
  refine ACalls.same .bool (acalls_of mix Try.func81 k81 n81 (by simp) fun hcl hb => ?_)
  have hc1 : (h.push (.cells (ubs D) .ex 1)).Closed := closed_push hcl ubs_bel
  have g1 : Gr h (h.push (.cells (ubs D) .ex 1)) := (Gr.refl hcl).push ubs_bel
  have g2 := g1.push (o := .cells (ubs E) .ex 1) ubs_bel
  have g12 : Gr (h.push (.cells (ubs D) .ex 1)) ((h.push (.cells (ubs D) .ex 1)).push (.cells (ubs E) .ex 1)) := (Gr.refl hc1).push ubs_bel
  have f1 := cellsOf_keep g12.m (cellsOf_new h (ubs D) .ex 1)
  have f2 := cellsOf_new (h.push (.cells (ubs D) .ex 1)) (ubs E) .ex 1
  simp only [c81, s_seq, s_ops]
  simp [m_ubs]
  have hn2 : ((h.push (.cells (ubs D) .ex 1)).push (.cells (ubs E) .ex 1)).n = h.n + 1 + 1 := rfl
  have hn1 : (h.push (.cells (ubs D) .ex 1)).n = h.n + 1 := rfl
  rw [hn1] at f2
  generalize (h.push (.cells (ubs D) .ex 1)).push (.cells (ubs E) .ex 1) = H at *
  refine awp_loop_of (α := Nat) (fun i => i ≤ 32)
    (fun i => [(2, .pointer (some ⟨h.n, 0, none⟩)), (3, .pointer (some ⟨h.n + 1, 0, none⟩)), (5, .int .u8 ((orN D E i).toNat : Int)), (7, .int .i64 i)]) (fun _ => H) (fun i => 32 - i) 0
    (Nat.zero_le _) ⟨by omega, Nat.le_refl _, fun _ _ e => e, g2.cl⟩ (by simp; exact ⟨.ptr (by show h.n < H.n; omega), .ptr (by show h.n + 1 < H.n; omega), ⟨rfl, .int⟩, .int⟩) ?_
  intro i hi
  by_cases hi3 : i < 32
  · have hi' : (i : Int) < 32 := by omega
    have gD : (ubs D)[i]? = some (.int .u8 ((D.getD i 0).toNat : Int)) := by rw [ubs_get (by omega)]; simp [List.getD, show i < D.length by omega]
    have gE : (ubs E)[i]? = some (.int .u8 ((E.getD i 0).toNat : Int)) := by rw [ubs_get (by omega)]; simp [List.getD, show i < E.length by omega]
    have hor : orN D E (i + 1) = orN D E i ||| (D.getD i 0 ^^^ E.getD i 0) := rfl
    have e1 : IntKind.i64.wrap ((i : Int) + 1) = ((i + 1 : Nat) : Int) := by rw [IntWalk.i64_in _ (by omega)]; omega
    generalize D.getD i 0 = x at *
    generalize E.getD i 0 = y at *
    have hx : abits .xor .u8 (x.toNat : Int) (y.toNat : Int) = ((x ^^^ y).toNat : Int) := y_xor x y
    have ho : abits .or .u8 ((orN D E i).toNat : Int) ((x ^^^ y).toNat : Int) = ((orN D E (i + 1)).toNat : Int) := by rw [hor]; exact y_or _ _
    simp [c81_0, hi', aidx_of hi3, f1, f2, apart, gD, gE, hx, ho, e1, -Int.natCast_add, -UInt8.toNat_xor, -UInt8.toNat_or]
    exact ⟨i + 1, by omega, by omega, Heap.Sub.refl g2.cl |>.weak (by omega), .ptr (by show h.n < H.n; omega), .ptr (by show h.n + 1 < H.n; omega), ⟨rfl, .int⟩, rfl, .int⟩
  · have hie : i = 32 := by omega
    subst hie
    have hz : ((orN D E 32).toNat : Int) = 0 ↔ D = E := by
      rw [← orN_eq hD hE]
      constructor
      · intro q
        exact UInt8.toNat_inj.1 (by simpa using q)
      · intro q; rw [q]; rfl
    simp [c81_0, hz]
    exact ⟨by rw [← hz]; omega, g2.ext⟩
/-- the key, or its digest -/
def keyV (K : List UInt8) : List UInt8 := if 64 < K.length then shaB K else K
theorem keyV_len (K : List UInt8) : (keyV K).length ≤ 64 := by
  unfold keyV
  split
  · rw [shaB_len]; omega
  · omega
/-- the tag -/
def macB (K T : List UInt8) : List UInt8 := shaB ((keyB (keyV K)).map (· ^^^ 92) ++ shaB ((keyB (keyV K)).map (· ^^^ 54) ++ T))
theorem macB_len (K T : List UInt8) : (macB K T).length = 32 := shaB_len _
theorem cond_join {P : Program} {n0 : Nat} {Q : AQ} {f : AF} {h : Heap} {a b : AC} {c : Bool} (J : AF → Heap → Prop) (h1 : c = true → awp P n0 a (fun e f h => e = .normal ∧ J f h) f h) (h2 : c = false → awp P n0 b (fun e f h => e = .normal ∧ J f h) f h)
    (h3 : ∀ f h, J f h → Q .normal f h) : condK P n0 a b Q f h (.bool c) :=
  ⟨fun e => awp_mono (fun _ f h ⟨q, j⟩ => q ▸ h3 f h j) (h1 e), fun e => awp_mono (fun _ f h ⟨q, j⟩ => q ▸ h3 f h j) (h2 e)⟩
theorem writeL_ok {h0 : Heap} (b : Nat) (nm : Option Nat) (T : List UInt8) (l : List (List UInt8)) (v : Value) (h : Heap) (hd : Dl h0 b nm T h) (hl : Sl enS h0 v l) (hn : T.length + l.flatten.length ≤ 50000000) (hln : l.length ≤ 1000000) :
    ACalls Try.prog 64 [.pointer (some ⟨b, 0, none⟩), v] h fun r h' => r = .tuple #[] ∧ ∃ nm', Dl h0 b nm' (T ++ l.flatten) h' := by
  have hcl := hd.gr.cl
  have key : ∀ H, Fr h b nm H → ∀ y ob, h0.m y = some ob → H.m y = some ob := fun H hF y ob e => hF.2 y ob (hd.gr.m y ob e) (by
    have := (hd.c0 y ob e).1
    have := hd.b0
    omega) (fun e' => by
    have := (hd.c0 y ob e).1
    have := hd.n0 y e'
    omega)
  refine (write_ok b nm T l v h hd.d (fun H hF => hl.keep (key H hF)) hn hln).mono' fun r h' hc' _ q => ?_
  obtain ⟨hr, nm', q1, q2, q3⟩ := q
  refine ⟨hr, nm', ⟨hd.c0, hd.b0, ⟨Nat.le_trans hd.gr.n q2.1, hc', key h' q2⟩, q1, ?_⟩⟩
  intro y e'
  rcases q3 with q | ⟨z, h1, h2⟩
  · exact hd.n0 y (q ▸ e')
  · rw [h1] at e'; cases e'
    have := hd.gr.n
    omega
set_option maxHeartbeats 1000000 in
theorem mac_ok (K : List UInt8) (l : List (List UInt8)) (v : Value) (h : Heap) (hl : Sl enS h v l) (hK : K.length ≤ 1000000) (hn : l.flatten.length ≤ 1000000) (hln : l.length ≤ 100000) :
    ACalls Try.prog 79 [.string (bs K), v] h fun r h' => r = .agg (ubs (macB K l.flatten)).toArray ∧ h' = h := by
  refine ACalls.same ubs_below (acalls_ofR mix Try.func79 k79 n79 (by simp) fun hcl hb => ?_)
  have bl := Sl.below hl hcl
  obtain ⟨ad, c, rfl⟩ := Sl.form hl
  have fil : ∀ s, afill [.string (bs [])] [(0, 1, .string (bs s))] = some [.string (bs s)] := fun _ => rfl
  have g1 : Gr h (h.push (.cells (zl .u8 32) .ex 1)) := (Gr.refl hcl).push (fun x hx => by rw [List.eq_of_mem_replicate hx]; exact .int)
  have f1 := cellsOf_new h (zl .u8 32) .ex 1
  have hz := zl_len .u8 32
  have ab32 : abounds 32 32 none none none = some (0, 32, 32) := rfl
  simp only [c79, s_seq, s_ops]
  simp [hz, bs_lit, fil, bs_size]
  have b0 : VBelow (h.n + 1) (.slice ad l.length c) := bl.mono (Nat.le_succ _)
  have hl1 := hl.keep (h' := h.push (.cells (zl .u8 32) .ex 1)) g1.m
  have hn1 : (h.push (.cells (zl .u8 32) .ex 1)).n = h.n + 1 := rfl
  generalize h.push (.cells (zl .u8 32) .ex 1) = H1 at *
  refine cond_join (fun f H => f 0 = .string (bs (keyV K)) ∧ f 1 = .slice ad l.length c ∧ f 4 = .pointer (some ⟨h.n, 0, none⟩) ∧ Gr H1 H) ?_ ?_ ?_
  · intro hb
    have hb' : 64 < K.length := by
      have := of_decide_eq_true hb
      omega
    simp [bs_lit, fil]
    have hsl := sl_str H1 K
    have g2 : Gr H1 (H1.push (.cells [.string (bs K)] .ex 1)) := (Gr.refl g1.cl).push (fun x hx => by simp at hx; rw [hx]; exact .string)
    generalize H1.push (.cells [.string (bs K)] .ex 1) = H2 at *
    refine (sum_ok [K] _ _ hsl (by simpa using (by omega : K.length ≤ 50000000)) (by simp)).mono ?_
    rintro _ h9 ⟨rfl, e⟩
    rw [e]
    clear e h9
    have hfl : [K].flatten = K := by simp
    rw [hfl]
    have hul : (ubs (shaB K)).length = 32 := by rw [ubs_len, shaB_len]
    have hpp : aput (zl .u8 32) 0 (ubs (shaB K)) = ubs (shaB K) := aput_all _ _ (by rw [hul, hz])
    have hcD := acut_full hul
    simp [hz, cellsOf_at, mcells, set_at, hul, hpp, ab32, afirst, hcD, abytes_ubs, bs_mk]
    exact ⟨by unfold keyV; rw [if_pos hb'], g2.push ubs_bel⟩
  · intro hb
    have hb' : ¬ 64 < K.length := by
      have := of_decide_eq_false hb
      omega
    simp
    exact ⟨by unfold keyV; rw [if_neg hb'], Gr.refl g1.cl⟩
  · rintro f H ⟨p0, p1, p4, g⟩
    simp
    refine (dl_new _).mono ?_
    rintro _ H3 ⟨b, rfl, hd⟩
    simp [p0, p1, p4]
    refine (pad_ok (keyV K) 54 (keyV_len K) _).mono ?_
    rintro _ h9 ⟨rfl, e⟩
    rw [e]
    clear e h9
    have hkl : ((keyB (keyV K)).map (· ^^^ 54)).length = 64 := by rw [List.length_map, keyB_len _ (keyV_len K)]
    simp [bs_lit, fil]
    refine (write1_ok b none [] ((keyB (keyV K)).map (· ^^^ 54)) H3 hd (by rw [hkl]; simp)).mono ?_
    rintro _ H4 ⟨rfl, nm4, hd4, -, -⟩
    simp [p1]
    rw [List.nil_append] at hd4
    refine (writeL_ok b nm4 _ l _ _ hd4 (hl1.keep g.m) (by rw [hkl]; omega) (by omega)).mono ?_
    rintro _ H5 ⟨rfl, nm5, hd5⟩
    simp
    refine (dsum_ok b nm5 _ _ hd5.d (by rw [List.length_append, hkl]; omega)).mono ?_
    rintro _ h9 ⟨rfl, e⟩
    rw [e]
    clear e h9
    have hD1 : (shaB ((keyB (keyV K)).map (· ^^^ 54) ++ l.flatten)).length = 32 := shaB_len _
    have hmac : macB K l.flatten = shaB ((keyB (keyV K)).map (· ^^^ 92) ++ shaB ((keyB (keyV K)).map (· ^^^ 54) ++ l.flatten)) := rfl
    generalize shaB ((keyB (keyV K)).map (· ^^^ 54) ++ l.flatten) = D1 at *
    have hul : (ubs D1).length = 32 := by rw [ubs_len, hD1]
    have hpp : aput (zl .u8 32) 0 (ubs D1) = ubs D1 := aput_all _ _ (by rw [hul, hz])
    have hcD := acut_full hul
    have hd6 := dl_push hd5 (o := .cells (ubs D1) .ex 1) ubs_bel
    have g6 : Gr H1 (H5.push (.cells (ubs D1) .ex 1)) := ⟨Nat.le_trans g.n hd6.gr.n, hd6.gr.cl, fun y ob e => hd6.gr.m y ob (g.m y ob e)⟩
    have f6 := cellsOf_new H5 (ubs D1) .ex 1
    simp [p0, p4, hz, cellsOf_at, mcells, set_at, hul, hpp, ab32, afirst, hcD, abytes_ubs, bs_mk]
    generalize H5.push (.cells (ubs D1) .ex 1) = H6 at *
    refine (pad_ok (keyV K) 92 (keyV_len K) _).mono ?_
    rintro _ h9 ⟨rfl, e⟩
    rw [e]
    clear e h9
    have hk2 : ((keyB (keyV K)).map (· ^^^ 92)).length = 64 := by rw [List.length_map, keyB_len _ (keyV_len K)]
    generalize (keyB (keyV K)).map (· ^^^ 92) = P2 at *
    have fil2 : afill [.string (bs []), .string (bs [])] [(0, 1, .string (bs P2)), (1, 1, .string (bs D1))] = some [.string (bs P2), .string (bs D1)] := rfl
    simp [f6, hcD, afirst, abytes_ubs, bs_mk, bs_lit, fil2]
    have hsl := sl_strs2 H6 P2 D1
    have g7 : Gr H1 (H6.push (.cells [.string (bs P2), .string (bs D1)] .ex 1)) := g6.push (fun x hx => by simp at hx; rcases hx with rfl | rfl <;> exact .string)
    generalize H6.push (.cells [.string (bs P2), .string (bs D1)] .ex 1) = H7 at *
    refine (sum_ok [P2, D1] _ _ hsl (by simp only [List.flatten_cons, List.flatten_nil, List.append_nil, List.length_append]; omega) (by simp)).mono ?_
    rintro _ h9 ⟨rfl, e⟩
    rw [e]
    clear e h9
    have hfl : [P2, D1].flatten = P2 ++ D1 := by simp
    rw [hfl, ← hmac]
    have hmul : (ubs (macB K l.flatten)).length = 32 := by rw [ubs_len, macB_len]
    have hmp : aput (zl .u8 32) 0 (ubs (macB K l.flatten)) = ubs (macB K l.flatten) := aput_all _ _ (by rw [hmul, hz])
    have f7 := cellsOf_keep g7.m f1
    have hcM := acut_full hmul
    simp [p4, f7, m_ubs, hmul, hmp, hz, cellsOf_set, apart, hcM]
    exact Heap.Ext.setNew (g1.ext.trans g7.ext) hcl (Nat.le_refl _) _
theorem keyB_get (K : List UInt8) (i : Nat) (h : i < 64) : (keyB K).getD i 0 = if i < K.length then K.getD i 0 else 0 := by
  unfold keyB
  by_cases hi : i < K.length
  · rw [if_pos hi, List.getD, List.getD, List.getElem?_append_left hi]
  · rw [if_neg hi, List.getD, List.getElem?_append_right (by omega)]
    by_cases h2 : i - K.length < 64 - K.length
    · rw [List.getElem?_replicate, if_pos h2]; rfl
    · rw [List.getElem?_replicate, if_neg h2]; rfl
theorem lat_str {H : Heap} {n : Nat} {nm : Option Nat} {v : Value} {P : List UInt8} (q : LAt H 1 nm v n (ubs P)) (hn : P.length = n) (h0 : 0 < n) : ∃ a, v = .slice (some a) n n ∧ afirst H 1 n (.slice (some a) n n) = some (ubs P) := by
  subst hn
  have sl : Sl eb H v P := LAt.sl q
  have hf := sl_first sl h0
  rcases sl with ⟨_, _, e⟩ | ⟨b, o, cap, cs, m, e, hv, _⟩
  · rw [e] at h0; cases h0
  · obtain ⟨a, ha⟩ := q.form
    rw [hv] at ha
    simp only [Value.slice.injEq] at ha
    obtain ⟨rfl, -, rfl⟩ := ha
    exact ⟨_, hv, by rw [hv] at hf; exact hf⟩
structure BM where
  i : Nat
  H : Heap
  n7 : Option Nat
  v7 : Value
  n8 : Option Nat
  v8 : Value
set_option maxHeartbeats 1000000 in
theorem refMac_ok (K T : List UInt8) (hK : K.length ≤ 1000000) (hT : T.length ≤ 900000) (Hv Kv : Value) (h : Heap) (hH : SlN h Hv hW) (hKv : SlN h Kv kW) :
    ACalls Try.prog 80 [.agg #[Hv, Kv], .string (bs K), .string (bs T)] h fun r h' => r = .agg (ubs (macB K T)).toArray ∧ h' = h := by
  refine ACalls.same ubs_below (acalls_ofR mix Try.func80 k80 n80 (by simp) fun hcl hb => ?_)
  have bH := Sl.below hH hcl
  have bK := Sl.below hKv hcl
  have hac : acut [Hv, Kv] 0 2 = some [Hv, Kv] := rfl
  have hz := zl_len .u8 32
  have g1 : Gr h (h.push (.cells [Hv, Kv] .ex 1)) := (Gr.refl hcl).push (fun x hx => by
    simp at hx
    rcases hx with rfl | rfl
    · exact bH.mono (Nat.le_succ _)
    · exact bK.mono (Nat.le_succ _))
  have g2 := g1.push (o := .cells (zl .u8 32) .ex 1) (fun x hx => by rw [List.eq_of_mem_replicate hx]; exact .int)
  have g12 : Gr (h.push (.cells [Hv, Kv] .ex 1)) ((h.push (.cells [Hv, Kv] .ex 1)).push (.cells (zl .u8 32) .ex 1)) := (Gr.refl g1.cl).push (fun x hx => by rw [List.eq_of_mem_replicate hx]; exact .int)
  have f1 := cellsOf_keep g12.m (cellsOf_new h [Hv, Kv] .ex 1)
  have f2 := cellsOf_new (h.push (.cells [Hv, Kv] .ex 1)) (zl .u8 32) .ex 1
  have hn1 : (h.push (.cells [Hv, Kv] .ex 1)).n = h.n + 1 := rfl
  have hn2 : ((h.push (.cells [Hv, Kv] .ex 1)).push (.cells (zl .u8 32) .ex 1)).n = h.n + 1 + 1 := rfl
  have hm2 : mcells (.agg #[Hv, Kv]) = some [Hv, Kv] := rfl
  simp only [c80, s_seq, s_ops]
  simp [hz, bs_lit, bs_size, hm2]
  rw [hn1] at f2
  have hH2 := hH.keep g2.m
  have hK2 := hKv.keep g2.m
  generalize (h.push (.cells [Hv, Kv] .ex 1)).push (.cells (zl .u8 32) .ex 1) = H2 at *
  refine cond_join (fun f H => f 1 = .string (bs (keyV K)) ∧ f 2 = .string (bs T) ∧ f 3 = .pointer (some ⟨h.n, 0, none⟩) ∧ f 6 = .pointer (some ⟨h.n + 1, 0, none⟩) ∧ H = H2) ?_ ?_ ?_
  · intro hb
    have hb' : 64 < K.length := by
      have := of_decide_eq_true hb
      omega
    simp [f1, apart, hac]
    refine (refSum_ok K (by omega) _ _ _ hH2 hK2).mono ?_
    rintro _ h9 ⟨rfl, e⟩
    rw [e]
    clear e h9
    simp
    refine (refBytes_ok (shaB K) (shaB_len _) _).mono ?_
    rintro _ h9 ⟨rfl, e⟩
    rw [e]
    clear e h9
    simp [keyV, hb']
  · intro hb
    have hb' : ¬ 64 < K.length := by
      have := of_decide_eq_false hb
      omega
    simp [keyV, hb']
  · rintro f H ⟨p1, p2, p3, p6, rfl⟩
    have fil0 : afill [] [] = some ([] : List Value) := rfl
    have hKl := keyV_len K
    simp [fil0]
    have gp : Gr H (H.push (.cells [] .ex 1)) := (Gr.refl g2.cl).push (fun x hx => by cases hx)
    have gp2 : Gr H ((H.push (.cells [] .ex 1)).push (.cells [] .ex 1)) := gp.push (fun x hx => by cases hx)
    have m8 := LAt.made (H.push (.cells [] .ex 1)) 1
    have m7 : LAt ((H.push (.cells [] .ex 1)).push (.cells [] .ex 1)) 1 (some H.n) (.slice (some ⟨H.n, 0, none⟩) 0 0) 0 [] := (LAt.made H 1).keep fun y e => by
      cases e
      rw [push_m, if_neg (by show H.n ≠ H.n + 1; omega)]
    have hnp : (H.push (.cells [] .ex 1)).n = H.n + 1 := rfl
    rw [hnp] at m8
    have hn3 : ((H.push (.cells [] .ex 1)).push (.cells [] .ex 1)).n = H.n + 1 + 1 := rfl
    generalize (H.push (.cells [] .ex 1)).push (.cells [] .ex 1) = H3 at *
    refine awp_loop_of (α := BM) (fun z => z.i ≤ 64 ∧ Gr H z.H ∧ LAt z.H 1 z.n7 z.v7 z.i (ubs (((keyB (keyV K)).take z.i).map (· ^^^ 54))) ∧ LAt z.H 1 z.n8 z.v8 z.i (ubs (((keyB (keyV K)).take z.i).map (· ^^^ 92))) ∧
        (∀ y, z.n7 = some y → H.n ≤ y) ∧ (∀ y, z.n8 = some y → H.n ≤ y) ∧ ∀ y, z.n7 = some y → z.n8 ≠ some y)
      (fun z => [(1, .string (bs (keyV K))), (2, .string (bs T)), (3, .pointer (some ⟨h.n, 0, none⟩)), (6, .pointer (some ⟨h.n + 1, 0, none⟩)), (7, z.v7), (8, z.v8), (9, .int .i64 z.i)]) (fun z => z.H) (fun z => 64 - z.i) ⟨0, H3, some H.n, .slice (some ⟨H.n, 0, none⟩) 0 0, some (H.n + 1), .slice (some ⟨H.n + 1, 0, none⟩) 0 0⟩
      ⟨Nat.zero_le _, gp2, m7, m8, fun y e => by cases e; exact Nat.le_refl _, fun y e => by cases e; exact Nat.le_succ _, fun y e => by cases e; simp⟩ ⟨by show h.n ≤ H3.n; omega, Nat.le_refl _, fun _ _ e => e, gp2.cl⟩
      (by simp [p1, p2, p3, p6]; exact ⟨.string, .string, .ptr (by show h.n < H3.n; omega), .ptr (by show h.n + 1 < H3.n; omega), m7.below gp2.cl, m8.below gp2.cl, .int⟩) ?_
    rintro ⟨i, HH, n7, v7, n8, v8⟩ ⟨hi, g, l7, l8, k7, k8, k78⟩
    dsimp only at hi g l7 l8 k7 k8 k78 ⊢
    have q3 : VBelow HH.n (.pointer (some ⟨h.n, 0, none⟩)) := .ptr (by have := g.n; show h.n < HH.n; omega)
    have q6 : VBelow HH.n (.pointer (some ⟨h.n + 1, 0, none⟩)) := .ptr (by have := g.n; show h.n + 1 < HH.n; omega)
    by_cases hi6 : i < 64
    · have hi' : (i : Int) < 64 := by omega
      have hget := keyB_get (keyV K) i hi6
      have hlen := keyB_len (keyV K) hKl
      have htk : (keyB (keyV K)).take (i + 1) = (keyB (keyV K)).take i ++ [(keyB (keyV K)).getD i 0] := by
        rw [List.take_succ_eq_append_getElem (by omega), List.getD, List.getElem?_eq_getElem (by omega)]; rfl
      have htl : ((keyB (keyV K)).take i).length = i := by rw [List.length_take]; omega
      have e1 : IntKind.i64.wrap ((i : Int) + 1) = ((i + 1 : Nat) : Int) := by rw [IntWalk.i64_in _ (by omega)]; omega
      simp only [c80_0]
      simp [hi', bs_size]
      refine cond_join (fun f H' => f 1 = .string (bs (keyV K)) ∧ f 2 = .string (bs T) ∧ f 3 = .pointer (some ⟨h.n, 0, none⟩) ∧ f 6 = .pointer (some ⟨h.n + 1, 0, none⟩) ∧ f 7 = v7 ∧ f 8 = v8 ∧ f 9 = .int .i64 i ∧ f 10 = .int .u8 (((keyB (keyV K)).getD i 0).toNat : Int) ∧ H' = HH) ?_ ?_ ?_
      · intro hb
        have hb' : i < (keyV K).length := by
          have := of_decide_eq_true hb
          omega
        rw [hget, if_pos hb']
        simp [bs_size, aidx_of hb', bs_data, hb']
      · intro hb
        have hb' : ¬ i < (keyV K).length := by
          have := of_decide_eq_false hb
          omega
        rw [hget, if_neg hb']
        simp
      · rintro f H' ⟨r1, r2, r3, r6, r7, r8, r9, r10, rfl⟩
        generalize (keyB (keyV K)).getD i 0 = x at *
        generalize hB : (keyB (keyV K)).take i = B at *
        have fil : ∀ c : UInt8, afill [.int .u8 0] [(0, 1, .int .u8 (c.toNat : Int))] = some (ubs [c]) := fun _ => rfl
        have x1 : abits .xor .u8 (x.toNat : Int) 54 = ((x ^^^ 54).toNat : Int) := y_xor x 54
        have x2 : abits .xor .u8 (x.toNat : Int) 92 = ((x ^^^ 92).toNat : Int) := y_xor x 92
        have lb := lat_byte (l := B.map (· ^^^ 54)) g.cl (by rw [List.length_map, htl]; exact l7) (x ^^^ 54) (by rw [List.length_map]; omega)
        rw [List.length_map, htl] at lb
        obtain ⟨a, q, a2, H4, happ, l4, keep4, n4, c4⟩ := lb
        cases q
        have g4 : Gr H H4 := ⟨by have := g.n; omega, c4, fun y ob e => keep4 y ob (g.m y ob e) (fun q => by have := k7 y q; have := (g2.cl y ob e).1; omega)⟩
        have l84 : LAt H4 1 n8 v8 i (ubs (B.map (· ^^^ 92))) := l8.keep fun y e => by
          subst e
          have hlt := l8.lt g.cl
          obtain ⟨ob, hob⟩ : ∃ ob, H'.m y = some ob := by
            rcases l8 with ⟨q, _⟩ | ⟨y', md, e, q, _, h3, _⟩
            · cases q
            · cases q; exact ⟨_, m_of_cells h3⟩
          rw [hob]
          exact keep4 y ob hob (fun q => k78 y q rfl)
        have lb := lat_byte (l := B.map (· ^^^ 92)) c4 (by rw [List.length_map, htl]; exact l84) (x ^^^ 92) (by rw [List.length_map]; omega)
        rw [List.length_map, htl] at lb
        obtain ⟨b, q, b2, H5, happ5, l5, keep5, n5, c5⟩ := lb
        cases q
        have g5 : Gr H H5 := ⟨by have := g4.n; omega, c5, fun y ob e => keep5 y ob (g4.m y ob e) (fun q => by have := k8 y q; have := (g2.cl y ob e).1; omega)⟩
        have l45 : LAt H5 1 (some (H'.n + 1)) (.slice a2 (i + 1) (i + 1)) (i + 1) (ubs (B.map (· ^^^ 54) ++ [x ^^^ 54])) := l4.keep fun y e => by
          cases e
          have hlt := l4.lt c4
          obtain ⟨ob, hob⟩ : ∃ ob, H4.m (H'.n + 1) = some ob := by
            rcases l4 with ⟨q, _⟩ | ⟨y', md, e, q, _, h3, _⟩
            · cases q
            · cases q; exact ⟨_, m_of_cells h3⟩
          rw [hob]
          exact keep5 _ ob hob (fun q => by
            rw [q] at l8
            have := l8.lt g.cl
            omega)
        have hub1 : ∀ c : UInt8, ubs [c] = [eb c] := fun _ => rfl
        have haf : ∀ (Z : Heap) (c : UInt8), afirst (Z.push (.cells [eb c] .ex 1)) 1 1 (.slice (some ⟨Z.n, 0, none⟩) 1 1) = some [eb c] := fun Z c => by
          simp [afirst, cellsOf_new, acut]
        have mp : ∀ y : UInt8, B.map (· ^^^ y) ++ [x ^^^ y] = ((B ++ [x]).map (· ^^^ y)) := fun y => by simp
        rw [mp] at l45 l5
        rw [← htk, List.map_take] at l45 l5
        simp [r7, r10, x1, fil, hub1, alen, haf, happ, r8, x2, happ5, r9, e1, r1, r2, r3, r6, -Int.natCast_add, -UInt8.toNat_xor]
        exact ⟨⟨i + 1, H5, some (H'.n + 1), .slice a2 (i + 1) (i + 1), some (H4.n + 1), .slice b2 (i + 1) (i + 1)⟩, by show 64 - (i + 1) < 64 - i; omega, ⟨by show i + 1 ≤ 64; omega, g5, l45, l5, fun y e => by cases e; have := g.n; omega, fun y e => by cases e; have := g4.n; omega, fun y e => by cases e; simp; omega⟩,
          ⟨by have := g5.n; show h.n ≤ H5.n; omega, Nat.le_refl _, fun _ _ e => e, c5⟩, .string, .string, q3.mono (by show H'.n ≤ H5.n; omega), q6.mono (by show H'.n ≤ H5.n; omega), ⟨rfl, l45.below c5⟩, ⟨rfl, l5.below c5⟩, rfl, .int⟩
    · have hie : i = 64 := by omega
      subst hie
      have hlen := keyB_len (keyV K) hKl
      rw [List.take_of_length_le (by omega)] at l7 l8
      obtain ⟨a7, rfl, h7⟩ := lat_str l7 (by rw [List.length_map, hlen]) (by omega)
      obtain ⟨a8, rfl, h8⟩ := lat_str l8 (by rw [List.length_map, hlen]) (by omega)
      have hP : ((keyB (keyV K)).map (· ^^^ 54)).length = 64 := by rw [List.length_map, hlen]
      have hO : ((keyB (keyV K)).map (· ^^^ 92)).length = 64 := by rw [List.length_map, hlen]
      have hmac : macB K T = shaB ((keyB (keyV K)).map (· ^^^ 92) ++ shaB ((keyB (keyV K)).map (· ^^^ 54) ++ T)) := rfl
      generalize (keyB (keyV K)).map (· ^^^ 54) = P1 at *
      generalize (keyB (keyV K)).map (· ^^^ 92) = P2 at *
      have f1H := cellsOf_keep g.m f1
      have f2H := cellsOf_keep g.m f2
      have s1 : P1.length + T.length ≤ 9223372036854775807 := by omega
      simp only [c80_0]
      simp [h7, h8, f1H, apart, hac, abytes_ubs, bs_mk, bs_size, bs_append, s1]
      refine (refSum_ok (P1 ++ T) (by rw [List.length_append]; omega) _ _ _ (hH2.keep g.m) (hK2.keep g.m)).mono ?_
      rintro _ h9 ⟨rfl, e⟩
      rw [e]
      clear e h9
      simp [h7, h8, f1H, apart, hac, abytes_ubs, bs_mk]
      refine (refBytes_ok _ (shaB_len _) _).mono ?_
      rintro _ h9 ⟨rfl, e⟩
      rw [e]
      clear e h9
      have hD1 : (shaB (P1 ++ T)).length = 32 := shaB_len _
      generalize shaB (P1 ++ T) = D1 at *
      have s2 : P2.length + D1.length ≤ 9223372036854775807 := by omega
      simp [h7, h8, f1H, apart, hac, abytes_ubs, bs_mk, bs_size, bs_append, s2]
      refine (refSum_ok (P2 ++ D1) (by rw [List.length_append]; omega) _ _ _ (hH2.keep g.m) (hK2.keep g.m)).mono ?_
      rintro _ h9 ⟨rfl, e⟩
      rw [e]
      clear e h9
      rw [← hmac]
      have hmul : (ubs (macB K T)).length = 32 := by rw [ubs_len, macB_len]
      have hmp : aput (zl .u8 32) 0 (ubs (macB K T)) = ubs (macB K T) := aput_all _ _ (by rw [hmul, hz])
      have hcM := acut_full hmul
      simp [f2H, m_ubs, hmul, hmp, hz, cellsOf_set, apart, hcM]
      exact Heap.Ext.setNew (g2.ext.trans g.ext) hcl (Nat.le_succ _) _
set_option maxHeartbeats 1000000 in
theorem shaMacs_ok (K : List UInt8) (l : List (List UInt8)) (W : List UInt8) (hW64 : W.length = 64) (v : Value) (h : Heap) (hl : Sl enS h v l) (hs : ∀ s ∈ l, s.length ≤ 140737488351232) (hln : l.length ≤ 9223372036854775807) :
    ACalls Try.prog 18 [.string (bs K), v, .agg (ubs W).toArray] h fun v _ => v = .bool true := by
  refine acalls_of mix Try.func18 k18 n18 (by simp) fun hcl hb => ?_
  have bl := Sl.below hl hcl
  obtain ⟨ad, c, rfl⟩ := Sl.form hl
  have fil : ∀ s, afill [.string (bs [])] [(0, 1, .string (bs s))] = some [.string (bs s)] := fun _ => rfl
  have hD : (W.take 32).length = 32 := by rw [List.length_take]; omega
  have hE : (W.drop 32).length = 32 := by rw [List.length_drop]; omega
  have ca : acut (ubs W) 0 32 = some (ubs (W.take 32)) := by
    unfold acut ubs
    rw [List.length_map, if_pos (by omega), List.drop_zero, List.map_take]
  have cb : acut (ubs W) 32 32 = some (ubs (W.drop 32)) := by
    unfold acut ubs
    rw [List.length_map, if_pos (by omega), ← List.map_drop, List.take_of_length_le (by rw [List.length_map]; omega)]
  have g1 : Gr h (h.push (.cells (ubs W) .ex 1)) := (Gr.refl hcl).push ubs_bel
  have f1 := cellsOf_new h (ubs W) .ex 1
  have hsz := bs_size K
  simp only [c18, s_seq, s_ops]
  simp [m_ubs]
  have hn1 : (h.push (.cells (ubs W) .ex 1)).n = h.n + 1 := rfl
  have hl1 := hl.keep g1.m
  generalize h.push (.cells (ubs W) .ex 1) = H1 at *
  refine (sawake_ok _).mono ?_
  rintro _ h9 ⟨rfl, e⟩
  rw [e]
  clear e h9
  simp [aun]
  refine (long_ok l _ _ hl1 hs hln).mono ?_
  rintro _ h9 ⟨rfl, e⟩
  rw [e]
  clear e h9
  simp
  cases hlong : longV l with
  | true => simp [hlong]
  | false =>
  obtain ⟨hl3, hl6⟩ := long_no hlong
  simp [hlong, hsz]
  by_cases hk : 300 < K.length
  · have hk' : (300 : Int) < (K.length : Int) := by omega
    simp [hk']
  have hk' : ¬ (300 : Int) < (K.length : Int) := by omega
  simp [hk']
  refine (new_ok _).mono' ?_
  rintro _ H2 hc2 - ⟨v1, v2, rfl, hH, hKk, s2⟩
  have hp : aput [Value.slice none 0 0, .slice none 0 0] 0 [v1, v2] = [v1, v2] := rfl
  have hac : acut [v1, v2] 0 2 = some [v1, v2] := rfl
  have bH := Sl.below hH hc2
  have bK := Sl.below hKk hc2
  have fil0 : afill [Value.slice none 0 0, .slice none 0 0] [] = some [.slice none 0 0, .slice none 0 0] := rfl
  have g2 : Gr H1 H2 := ⟨s2.hi, hc2, s2.sub⟩
  simp [fil0, cellsOf_at, mcells, set_at, hp]
  have g23 : Gr H2 (H2.push (.cells [v1, v2] .ex 1)) := (Gr.refl hc2).push (fun x hx => by
    simp at hx
    rcases hx with rfl | rfl
    · exact bH.mono (Nat.le_succ _)
    · exact bK.mono (Nat.le_succ _))
  have f3 := cellsOf_new H2 [v1, v2] .ex 1
  generalize H2.push (.cells [v1, v2] .ex 1) = H3 at *
  have hl3' := (hl1.keep g2.m).keep g23.m
  refine (joined_ok l _ _ hl3' (by omega) (by omega)).mono ?_
  rintro _ h9 ⟨rfl, e⟩
  rw [e]
  clear e h9
  simp
  refine (mac_ok K l _ _ hl3' (by omega) (by omega) (by omega)).mono ?_
  rintro _ h9 ⟨rfl, e⟩
  rw [e]
  clear e h9
  have hM := macB_len K l.flatten
  have hul : (ubs (macB K l.flatten)).length = 32 := by rw [ubs_len, hM]
  have hz := zl_len .u8 32
  have hpp : aput (zl .u8 32) 0 (ubs (macB K l.flatten)) = ubs (macB K l.flatten) := aput_all _ _ (by rw [hul, hz])
  have hcD := acut_full hul
  have g34 : Gr H3 (H3.push (.cells (ubs (macB K l.flatten)) .ex 1)) := (Gr.refl g23.cl).push ubs_bel
  have f4 := cellsOf_new H3 (ubs (macB K l.flatten)) .ex 1
  have f34 := cellsOf_keep g34.m f3
  have f14 := cellsOf_keep g34.m (cellsOf_keep g23.m (cellsOf_keep g2.m f1))
  have heqM := eq_32 hM hM
  have heqW := eq_32 hD hE
  have hH4 := (hH.keep g23.m).keep g34.m
  have hK4 := (hKk.keep g23.m).keep g34.m
  simp [hz, cellsOf_at, mcells, set_at, hul, hpp]
  generalize H3.push (.cells (ubs (macB K l.flatten)) .ex 1) = H4 at *
  simp [f4, f34, apart, hac, hcD]
  refine (refMac_ok K l.flatten (by omega) (by omega) _ _ _ hH4 hK4).mono ?_
  rintro _ h9 ⟨rfl, e⟩
  rw [e]
  clear e h9
  simp [f4, f34, apart, hac, hcD, heqM, fil, bs_lit]
  have hsl := sl_str H4 l.flatten
  have g45 : Gr H4 (H4.push (.cells [.string (bs l.flatten)] .ex 1)) := (Gr.refl g34.cl).push (fun x hx => by simp at hx; rw [hx]; exact .string)
  have f45 := cellsOf_keep g45.m f4
  have f15 := cellsOf_keep g45.m f14
  generalize H4.push (.cells [.string (bs l.flatten)] .ex 1) = H5 at *
  simp [f45, apart, hcD]
  have hfl : [l.flatten].flatten = l.flatten := by simp
  refine (mac_ok K [l.flatten] _ _ hsl (by omega) (by rw [hfl]; omega) (by simp)).mono ?_
  rintro _ h9 ⟨rfl, e⟩
  rw [e, hfl]
  clear e h9
  have ix0 : aidx (.int .i64 0) 2 = some 0 := rfl
  have ix1 : aidx (.int .i64 1) 2 = some 1 := rfl
  simp [f45, f15, apart, hcD, heqM, ca, cb, ix0, ix1, heqW]
  refine (equal_ok _ _ hD hE _).mono ?_
  rintro _ h9 ⟨rfl, e⟩
  rw [e]
  clear e h9
  simp [f45, f15, apart, hcD, ca, cb, aeq]
  refine (equal_ok _ _ hM hM _).mono ?_
  rintro _ h9 ⟨rfl, e⟩
  rw [e]
  clear e h9
  simp
section
open Go.RowKit Go.ChangeShapes Go.WideShapes
theorem open_arrayK {H : Type} {P : Program} {W : World} {enc : TypeId × Value → H} {t e : TypeId} {n : Nat} {K : List IntKind} {v : Value} {d : DataW H} {ps : List MemPlace} (ht : P.underlying t = some (.array n e)) (hF : FlatK enc P W t K)
    {r : Reach} {b : Nat} (hval : Value.okWide P W r b t v) {sp : Nat → Bool} {hh : Bool} (hd : DataW.Trod enc P W 0 sp hh t v d ps) :
    ∃ cs : List Value, v = .agg cs.toArray ∧ cs.length = K.length ∧ ∀ j, j < K.length → ∃ n, cs[j]? = some (Value.int (K.getD j .i64) n) ∧ (Lit.int (K.getD j .i64) n).wf = true := by
  obtain ⟨cs, rfl, hsz⟩ : ∃ cs, v = .agg cs ∧ cs.size = P.cellsOf t := by
    simp only [Value.okWide, ht] at hval
    obtain ⟨cs, h1, h2, _⟩ := hval
    exact ⟨cs, h1, h2⟩
  obtain ⟨fuel, h⟩ := hd
  obtain ⟨hl, hall⟩ := hF.2 _ _ _ _ _ _ h
  have e : (Value.agg cs).cells.toList = cs.toList := rfl
  rw [e] at hl hall
  exact ⟨cs.toList, by simp, hl, hall⟩
theorem flat118 {H : Type} {W : World} {enc : TypeId × Value → H} : FlatK enc Try.prog W 118 (List.replicate 64 .u8) := by
  have i5 : FlatK enc Try.prog W 5 [.u8] := flatK_int Try.underlying5 (by kernel_rfl)
  have a96 : FlatK enc Try.prog W 96 (List.replicate 32 .u8) := flatK_array (K := [.u8]) Try.underlying96 i5 (by kernel_rfl) (fun j hj => match j, hj with
    | 0, _ => rfl)
  refine flatK_array (n := 2) (K := List.replicate 32 .u8) Try.underlying118 a96 (by kernel_rfl) (fun j hj => ?_)
  rw [List.getD, List.getElem?_replicate, if_pos (by simpa using hj)]
  rfl
theorem hashes_of {v : Value} {cs : List Value} (hv : v = .agg cs.toArray) (hl : cs.length = (List.replicate 64 IntKind.u8).length) (hw : ∀ j, j < (List.replicate 64 IntKind.u8).length → ∃ n, cs[j]? = some (Value.int ((List.replicate 64 IntKind.u8).getD j .i64) n) ∧ (Lit.int ((List.replicate 64 IntKind.u8).getD j .i64) n).wf = true) :
    ∃ D : List UInt8, v = .agg (ubs D).toArray ∧ D.length = 64 := by
  have hl' : cs.length = 64 := by rw [hl, List.length_replicate]
  obtain ⟨D, hD⟩ := bytes_list (cs := cs) fun j hj => by
    obtain ⟨n, h1, h2⟩ := hw j (by rw [List.length_replicate]; omega)
    have e : (List.replicate 64 IntKind.u8).getD j .i64 = .u8 := by
      rw [List.getD, List.getElem?_replicate, if_pos (by omega)]
      rfl
    rw [e] at h1 h2
    exact ⟨n, h1, h2⟩
  exact ⟨D, by rw [hv, hD], by rw [← ubs_len D, ← hD, hl']⟩
end
end Go.Proofs.Ythhhcpbkedikfaa.sham
