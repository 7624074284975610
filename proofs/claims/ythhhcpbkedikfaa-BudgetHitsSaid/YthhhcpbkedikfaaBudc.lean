/-
  Contracts.
-/
import Derived.Test.YthhhcpbkedikfaaBudb
import Derived.Test.YthhhcpbkedikfaaBuda
import Derived.Test.YthhhcpbkedikfaaGeo
import Derived.Test.YthhhcpbkedikfaaShar
import Derived.Test.YthhhcpbkedikfaaHead
import Derived.Test.YthhhcpbkedikfaaSha
import Derived.Test.YthhhcpbkedikfaaNum
import Derived.Test.YthhhcpbkedikfaaAbEnter
import Derived.Test.YthhhcpbkedikfaaProg
import Derived.IntWalk
import Derived.KernelRfl
set_option linter.unusedSimpArgs false
set_option linter.unusedVariables false
namespace Go.Proofs.Ythhhcpbkedikfaa.budc
open Go Go.Ab Go.Proofs Go.RowKit Go.Proofs.Ythhhcpbkedikfaa.num Go.Proofs.Ythhhcpbkedikfaa.sha Go.Proofs.Ythhhcpbkedikfaa.head Go.Proofs.Ythhhcpbkedikfaa.shar Go.Proofs.Ythhhcpbkedikfaa.geo Go.Proofs.Ythhhcpbkedikfaa.buda Go.Proofs.Ythhhcpbkedikfaa.budb
set_option maxRecDepth 100000
attribute [local simp] s_ops s_seq s_cond s_cond_t s_cond_f s_block s_exit s_ret s_skip s_then_n s_then_n' s_then_e s_then_e' s_then_r s_then_r' s_block_n s_block_r s_block_e s_post_r s_post_n s_res0 s_res1 s_res2 s_res3 s_res4 s_nil s_cons s_guard s_guard_tt s_guard_ff s_guard_tf s_guard_ft s_guard_u s_call s_kL s_put s_put0 s_set s_tmp s_const s_func s_init s_mkF s_mkF0 s_mv s_bin s_pick s_op aop oK_some oK_none bK_some bK_none b_add b_sub b_mul b_quo b_rem b_and b_or b_xor b_andNot b_shl b_shr b_eql b_neq b_lss b_leq b_gtr b_geq b_sadd b_seql b_sneq b_slss b_sleq b_sgtr b_sgeq s_draw s_stage s_stage0 s_kW s_kR s_rc0 s_rc s_rcg rK_some rK_none rG_b rG_u s_callv s_callv_f s_nextM s_postR_r s_postR_n s_resA0 s_resAt s_resAc s_resC s_tup0 s_tup1 s_tup2 s_tup3
theorem places_getF (d p s : Int) (n i : Nat) (hi : i < n) : (places d p s n)[i * 4 + 1]? = some (cI (place d p s i).2.1) ∧ (places d p s n)[i * 4 + 2]? = some (cI (place d p s i).2.2.1) := by
  have := places_get d p s n i hi
  unfold acut at this
  rw [if_pos (by rw [places_len]; omega)] at this
  simp only [Option.some.injEq] at this
  have h1 := congrArg (fun l => l[1]?) this
  have h2 := congrArg (fun l => l[2]?) this
  exact ⟨by simpa [plv] using h1, by simpa [plv] using h2⟩
/-- is it of that stripe, and hit? -/
def cnd (d p s : Int) (B : List Bool) (q : Int × Int) (j : Nat) : Bool := decide ((place d p s j).1 = 0) && decide ((place d p s j).2.1 = q.1) && decide ((place d p s j).2.2.1 = q.2) && B.getD j false
def mny (d p s : Int) (B : List Bool) (q : Int × Int) : Nat → Nat
  | 0 => 0
  | n + 1 => mny d p s B q n + if cnd d p s B q n then 1 else 0
theorem mny_le (d p s : Int) (B : List Bool) (q : Int × Int) : ∀ n, mny d p s B q n ≤ n
  | 0 => Nat.le_refl _
  | n + 1 => by
    have := mny_le d p s B q n
    unfold mny
    split <;> omega
/-- the number of sectors -/
def nS (d p s : Int) : Nat := (3 * slot d p s + 18).toNat
theorem nS_le (d p s : Int) : nS d p s ≤ 354 := by
  unfold nS
  have := slot_bound (d := d) (p := p) (s := s)
  omega
theorem many_ok (d p s : Int) (hr : right d p s = true) (B : List Bool) (hB : B.length = nS d p s) (v : Value) (a k : Int) (h : Heap) (hl : Sl Value.bool h v B) :
    ACalls Try.prog 60 [gv d p s, v, .int .i64 a, .int .i64 k] h fun r h' => r = .int .i64 (mny d p s B (a, k) (nS d p s)) ∧ h' = h := by
  refine ACalls.same .int (acalls_of mix Try.func60 k60 n60 (by simp) fun hcl hb => ?_)
  have bl := Sl.below hl hcl
  obtain ⟨ad, c, rfl⟩ := Sl.form hl
  have hf := cellsOf_new h [.int .i64 d, .int .i64 p, .int .i64 s] .ex 1
  have g1 : Gr h (h.push (.cells [.int .i64 d, .int .i64 p, .int .i64 s] .ex 1)) := (Gr.refl hcl).push gv_bel
  have ac : acut [.int .i64 d, .int .i64 p, .int .i64 s] 0 3 = some [.int .i64 d, .int .i64 p, .int .i64 s] := rfl
  simp only [c60, s_seq, s_ops]
  simp [gv, mcells, hf, apart, ac]
  have hn1 : (h.push (.cells [.int .i64 d, .int .i64 p, .int .i64 s] .ex 1)).n = h.n + 1 := rfl
  generalize h.push (.cells [.int .i64 d, .int .i64 p, .int .i64 s] .ex 1) = H at *
  have lo := list_ok d p s hr H
  unfold gv at lo
  refine lo.mono' ?_
  rintro _ H2 hc2 - ⟨hL, s2⟩
  have g2 : Gr H H2 := ⟨s2.hi, hc2, s2.sub⟩
  obtain ⟨lb, cap, lm, le, rfl, hlc⟩ := hL
  have hlb := cellsOf_lt hc2 hlc
  have g12 : Gr h H2 := ⟨Nat.le_trans g1.n g2.n, hc2, fun y ob e => g2.m y ob (g1.m y ob e)⟩
  have hl2 := hl.keep g12.m
  have hN := nS_le d p s
  have bl2 := bl.mono g12.n
  simp
  show awp _ _ _ _ _ _
  rw [show (3 * slot d p s + 18).toNat = nS d p s from rfl] at hlc ⊢
  refine awp_loop_of (α := Nat) (fun i => i ≤ nS d p s)
    (fun i => [(1, .slice ad B.length c), (2, .int .i64 a), (3, .int .i64 k), (9, .slice (some ⟨lb, 0, none⟩) (nS d p s) cap), (10, .int .i64 (mny d p s B (a, k) i)), (11, .int .i64 i)]) (fun _ => H2) (fun i => nS d p s - i) 0
    (Nat.zero_le _) ⟨g12.n, Nat.le_refl _, fun _ _ e => e, hc2⟩ (by simp [mny]; exact ⟨bl2, .int, .int, .slice hlb, .int⟩) ?_
  intro i hi
  by_cases hin : i < nS d p s
  · have hi' : (i : Int) < (nS d p s : Int) := by omega
    have p0 := places_get0 d p s (nS d p s) i hin
    obtain ⟨p1, p2⟩ := places_getF d p s (nS d p s) i hin
    have hiB : i < B.length := by omega
    obtain ⟨b, o, cs, m, e, rfl, _, x1, x2⟩ := Sl.at hl2 hiB
    have hgd : B.getD i false = B[i] := by rw [List.getD, List.getElem?_eq_getElem hiB]; rfl
    have hsucc : mny d p s B (a, k) (i + 1) = mny d p s B (a, k) i + if cnd d p s B (a, k) i then 1 else 0 := rfl
    have hml := mny_le d p s B (a, k) i
    have e1 : IntKind.i64.wrap ((i : Int) + 1) = ((i + 1 : Nat) : Int) := by rw [IntWalk.i64_in _ (by omega)]; omega
    have e2 : IntKind.i64.wrap ((mny d p s B (a, k) i : Int) + 1) = ((mny d p s B (a, k) i + 1 : Nat) : Int) := by rw [IntWalk.i64_in _ (by omega)]; omega
    have hidx := aidx_of (k := .i64) hin
    have hidB := aidx_of (k := .i64) hiB
    generalize hpl : place d p s i = P at *
    have fin : ∀ t : Bool, cnd d p s B (a, k) i = t → ∀ x : Int, x = ((mny d p s B (a, k) i + if t then 1 else 0 : Nat) : Int) → ∃ y, nS d p s - y < nS d p s - i ∧ y ≤ nS d p s ∧ H2.Sub h.n H2 ∧ VBelow H2.n (.slice (some ⟨b, o, none⟩) B.length c) ∧ VBelow H2.n (.int .i64 a) ∧ VBelow H2.n (.int .i64 k) ∧ VBelow H2.n (.slice (some ⟨lb, 0, none⟩) (nS d p s) cap) ∧ (x = (mny d p s B (a, k) y : Int) ∧ VBelow H2.n (.int .i64 (mny d p s B (a, k) y))) ∧ ((i + 1 : Nat) : Int) = (y : Int) ∧ VBelow H2.n (.int .i64 y) := fun t ht x hx => by
      refine ⟨i + 1, by omega, by omega, ⟨g12.n, Nat.le_refl _, fun _ _ e => e, hc2⟩, bl2, .int, .int, .slice hlb, ⟨?_, .int⟩, rfl, .int⟩
      rw [hx, hsucc, ht]
    simp only [c60_0]
    simp [hi', hidx, hidB, hlc, p0, apart]
    have hc' : cnd d p s B (a, k) i = (decide (P.1 = 0) && decide (P.2.1 = a) && decide (P.2.2.1 = k) && B[i]) := by
      unfold cnd
      rw [hpl, hgd]
    by_cases q0 : P.1 = 0
    · simp [q0, hidx, hlc, p1, apart]
      by_cases q1 : P.2.1 = a
      · simp [q1, hidx, hlc, p2, apart]
        by_cases q2 : P.2.2.1 = k
        · simp [q2, hidB, x1, x2, apart]
          cases hBi : B[i] with
          | true =>
            simp [hBi, e1, e2, -Int.natCast_add]
            exact fin true (by rw [hc', hBi]; simp [q0, q1, q2]) _ rfl
          | false =>
            simp [hBi, e1, -Int.natCast_add]
            exact fin false (by rw [hc', hBi]; simp) _ (by simp)
        · simp [q2, e1, -Int.natCast_add]
          exact fin false (by rw [hc']; simp [q2]) _ (by simp)
      · simp [q1, e1, -Int.natCast_add]
        exact fin false (by rw [hc']; simp [q1]) _ (by simp)
    · simp [q0, e1, -Int.natCast_add]
      exact fin false (by rw [hc']; simp [q0]) _ (by simp)
  · have hie : i = nS d p s := by omega
    subst hie
    simp only [c60_0]
    simp
    exact g12.ext
/-- within, by the document -/
def okTo (d p s : Int) (B : List Bool) (i : Nat) : Prop := ∀ j, j < i → B.getD j false = true → (place d p s j).1 = 0 ∧ (mny d p s B ((place d p s j).2.1, (place d p s j).2.2.1) (nS d p s) : Int) ≤ p / 2
def rwth (d p s : Int) (B : List Bool) : Prop := okTo d p s B (nS d p s)
set_option maxHeartbeats 1000000 in
theorem refWithin_ok (d p s : Int) (hr : right d p s = true) (B : List Bool) (hB : B.length = nS d p s) (v : Value) (h : Heap) (hl : Sl Value.bool h v B) :
    ACalls Try.prog 59 [gv d p s, v] h fun r h' => Tells r (rwth d p s B) ∧ h' = h := by
  refine ACalls.same' (fun v t => t.below) (acalls_of mix Try.func59 k59 n59 (by simp) fun hcl hb => ?_)
  have bl := Sl.below hl hcl
  obtain ⟨ad, c, rfl⟩ := Sl.form hl
  have hp := right_prop.1 hr
  have hf := cellsOf_new h [.int .i64 d, .int .i64 p, .int .i64 s] .ex 1
  have g1 : Gr h (h.push (.cells [.int .i64 d, .int .i64 p, .int .i64 s] .ex 1)) := (Gr.refl hcl).push gv_bel
  have ac : acut [.int .i64 d, .int .i64 p, .int .i64 s] 0 3 = some [.int .i64 d, .int .i64 p, .int .i64 s] := rfl
  simp only [c59, s_seq, s_ops]
  simp [gv, mcells, hf, apart, ac]
  have hn1 : (h.push (.cells [.int .i64 d, .int .i64 p, .int .i64 s] .ex 1)).n = h.n + 1 := rfl
  generalize h.push (.cells [.int .i64 d, .int .i64 p, .int .i64 s] .ex 1) = H at *
  have lo := list_ok d p s hr H
  unfold gv at lo
  refine lo.mono' ?_
  rintro _ H2 hc2 - ⟨hL, s2⟩
  have g2 : Gr H H2 := ⟨s2.hi, hc2, s2.sub⟩
  obtain ⟨lb, cap, lm, le, rfl, hlc⟩ := hL
  have hlb := cellsOf_lt hc2 hlc
  have g12 : Gr h H2 := ⟨Nat.le_trans g1.n g2.n, hc2, fun y ob e => g2.m y ob (g1.m y ob e)⟩
  have hl2 := hl.keep g12.m
  have hN := nS_le d p s
  have bl2 := bl.mono g12.n
  have hf2 := cellsOf_keep g2.m hf
  have hf2n := cellsOf_lt hc2 hf2
  simp
  show awp _ _ _ _ _ _
  rw [show (3 * slot d p s + 18).toNat = nS d p s from rfl] at hlc ⊢
  refine awp_loop_of (α := Nat) (fun i => i ≤ nS d p s ∧ okTo d p s B i)
    (fun i => [(1, .slice ad B.length c), (2, .pointer (some ⟨h.n, 0, none⟩)), (5, .slice (some ⟨lb, 0, none⟩) (nS d p s) cap), (6, .int .i64 i)]) (fun _ => H2) (fun i => nS d p s - i) 0
    ⟨Nat.zero_le _, fun j hj => by omega⟩ ⟨g12.n, Nat.le_refl _, fun _ _ e => e, hc2⟩ (by simp; exact ⟨bl2, .ptr hf2n, .slice hlb, .int⟩) ?_
  rintro i ⟨hi, hI⟩
  by_cases hin : i < nS d p s
  · have hi' : (i : Int) < (nS d p s : Int) := by omega
    have p0 := places_get0 d p s (nS d p s) i hin
    obtain ⟨p1, p2⟩ := places_getF d p s (nS d p s) i hin
    have hiB : i < B.length := by omega
    obtain ⟨b, o, cs, m, e, rfl, _, x1, x2⟩ := Sl.at hl2 hiB
    have hgd : B.getD i false = B[i] := by rw [List.getD, List.getElem?_eq_getElem hiB]; rfl
    have e1 : IntKind.i64.wrap ((i : Int) + 1) = ((i + 1 : Nat) : Int) := by rw [IntWalk.i64_in _ (by omega)]; omega
    have hidx := aidx_of (k := .i64) hin
    have hidB := aidx_of (k := .i64) hiB
    have hq2 : IntKind.i64.wrap (p.tdiv 2) = p / 2 := by rw [tdiv_pos (by omega), IntWalk.i64_in _ (by omega)]
    have fin : (B[i] = true → (place d p s i).1 = 0 ∧ (mny d p s B ((place d p s i).2.1, (place d p s i).2.2.1) (nS d p s) : Int) ≤ p / 2) → ∃ y, nS d p s - y < nS d p s - i ∧ (y ≤ nS d p s ∧ okTo d p s B y) ∧ H2.Sub h.n H2 ∧ VBelow H2.n (.slice (some ⟨b, o, none⟩) B.length c) ∧ VBelow H2.n (.pointer (some ⟨h.n, 0, none⟩)) ∧ VBelow H2.n (.slice (some ⟨lb, 0, none⟩) (nS d p s) cap) ∧ ((i + 1 : Nat) : Int) = (y : Int) ∧ VBelow H2.n (.int .i64 y) := fun hk => by
      refine ⟨i + 1, by omega, ⟨by omega, fun j hj hb => ?_⟩, ⟨g12.n, Nat.le_refl _, fun _ _ e => e, hc2⟩, bl2, .ptr hf2n, .slice hlb, rfl, .int⟩
      by_cases e : j = i
      · subst e
        exact hk (by rw [← hgd]; exact hb)
      · exact hI j (by omega) hb
    have bad : B[i] = true → ¬ ((place d p s i).1 = 0 ∧ (mny d p s B ((place d p s i).2.1, (place d p s i).2.2.1) (nS d p s) : Int) ≤ p / 2) → ¬ rwth d p s B := fun h1 h2 h3 => h2 (h3 i hin (by rw [hgd]; exact h1))
    generalize hpl : place d p s i = P at *
    simp only [c59_0]
    simp [hi', hidx, hidB, x1, x2, apart]
    cases hBi : B[i] with
    | false =>
      simp [hBi, e1, -Int.natCast_add]
      exact fin fun q => by rw [hBi] at q; cases q
    | true =>
      simp [hBi, hidx, hlc, p0, apart]
      by_cases q0 : P.1 = 0
      · simp [q0, hidx, hlc, p1, p2, apart, hf2, ac]
        have mk := many_ok d p s hr B hB (.slice (some ⟨b, o, none⟩) B.length c) P.2.1 P.2.2.1 H2 hl2
        unfold gv at mk
        refine mk.mono ?_
        rintro _ h9 ⟨rfl, e⟩
        rw [e]
        clear e h9 mk
        simp [hf2, apart, hq2]
        by_cases q1 : p / 2 < (mny d p s B (P.2.1, P.2.2.1) (nS d p s) : Int)
        · simp [q1]
          refine ⟨⟨false, rfl, ?_⟩, g12.ext⟩
          simp
          exact bad hBi fun q => by have := q.2; omega
        · simp [q1, e1, -Int.natCast_add]
          exact fin fun _ => ⟨q0, by omega⟩
      · simp [q0]
        refine ⟨⟨false, rfl, ?_⟩, g12.ext⟩
        simp
        exact bad hBi fun q => q0 q.1
  · have hie : i = nS d p s := by omega
    subst hie
    simp only [c59_0]
    simp
    exact ⟨⟨true, rfl, by simp; exact hI⟩, g12.ext⟩
theorem cutN {α : Type} {ea : α → List Value} {n : Nat} (hn : ∀ a, (ea a).length = n) (l : List α) : ∀ i (hi : i < l.length), acut (l.flatMap ea) (0 + i * n) n = some (ea l[i]) := by
  have hl : ∀ z : List α, (z.flatMap ea).length = z.length * n := fun z => by
    induction z with
    | nil => simp
    | cons a z ih => rw [List.flatMap_cons, List.length_append, ih, List.length_cons, hn, Nat.add_mul]; omega
  induction l with
  | nil => intro i hi; simp at hi
  | cons e r ih =>
    intro i hi
    cases i with
    | zero =>
      unfold acut
      rw [List.flatMap_cons, if_pos (by rw [List.length_append, hn]; omega)]
      have : (ea e).length = n := hn e
      simp [← this]
    | succ i =>
      have := ih i (by simpa using hi)
      unfold acut at this ⊢
      have hi' : i < r.length := by simpa using hi
      have hin : i * n + n ≤ r.length * n := by
        have : (i + 1) * n ≤ r.length * n := Nat.mul_le_mul_right n hi'
        rw [Nat.add_mul] at this; omega
      have hs : (i + 1) * n = i * n + n := by rw [Nat.add_mul]; omega
      rw [if_pos (by rw [hl]; omega)] at this
      rw [List.flatMap_cons, if_pos (by rw [List.length_append, hn, hl, hs]; omega), List.drop_append, List.drop_of_length_le (by rw [hn, hs]; omega), List.nil_append, hn, show 0 + (i + 1) * n - n = 0 + i * n by rw [hs]; omega]
      exact this
theorem lat_slG {α : Type} {ea : α → List Value} {n : Nat} (hn : ∀ a, (ea a).length = n) {H : Heap} {nm : Option Nat} {v : Value} {k : Nat} {l : List α} (q : LAt H n nm v k (l.flatMap ea)) (hk : l.length = k) : SlG ea n H v l := by
  subst hk
  rcases q with ⟨_, h1, h2, h3⟩ | ⟨x, md, e, h1, h2, h3, h4, _, h5⟩
  · exact .inl ⟨0, h1, List.eq_nil_of_length_eq_zero h2⟩
  · exact .inr ⟨x, 0, _, _, _, _, h2, h3, Nat.le_refl _, h5, fun i hi => cutN hn l i hi⟩
/-- bytes by which those from a place on are turned -/
def rc (r : Int × List UInt8) : List Value := [.int .i64 r.1, .string (bs r.2)]
def rotL (l : List Ev) : List (Int × List UInt8) := (l.filter fun e => decide (e.k = 15)).map fun e => (e.a, e.S)
theorem rotL_succ (l : List Ev) (i : Nat) (h : i < l.length) : rotL (l.take (i + 1)) = rotL (l.take i) ++ (if l[i].k = 15 then [(l[i].a, l[i].S)] else []) := by
  unfold rotL
  rw [List.take_succ_eq_append_getElem h, List.filter_append, List.map_append]
  congr 1
  by_cases q : l[i].k = 15
  · simp [q]
  · simp [q]
theorem rotL_len (l : List Ev) : (rotL l).length ≤ l.length := by
  unfold rotL
  rw [List.length_map]
  exact List.length_filter_le _ _
structure ZR where
  i : Nat
  H : Heap
  nm : Option Nat
  v : Value
set_option maxHeartbeats 1000000 in
theorem rots_ok (l : List Ev) (v : Value) (h : Heap) (hl : Sl5 h v l) (hln : l.length ≤ 1000000) : ACalls Try.prog 58 [v] h fun r h' => SlG rc 2 h' r (rotL l) ∧ Gr h h' := by
  refine acalls_of mix Try.func58 k58 n58 (by simp) fun hcl hb => ?_
  have bl := hl.below hcl
  obtain ⟨ad, c, rfl⟩ := hl.form
  simp [c58]
  refine awp_loop_of (α := ZR) (fun z => z.i ≤ l.length ∧ Gr h z.H ∧ LAt z.H 2 z.nm z.v (rotL (l.take z.i)).length ((rotL (l.take z.i)).flatMap rc) ∧ ∀ y, z.nm = some y → h.n ≤ y)
    (fun z => [(3, z.v), (6, .slice ad l.length c), (7, .int .i64 l.length), (8, .int .i64 z.i)]) (fun z => z.H) (fun z => l.length - z.i) ⟨0, h, none, .slice none 0 0⟩
    ⟨Nat.zero_le _, Gr.refl hcl, .inl ⟨rfl, rfl, rfl, rfl⟩, fun y e => by cases e⟩ (Heap.Sub.refl hcl) (by simp; exact ⟨.snil, bl, .int, .int⟩) ?_
  rintro ⟨i, H, nm, vo⟩ ⟨hi, g, hL, hnm⟩
  dsimp only at hi g hL hnm ⊢
  have e1 : IntKind.i64.wrap ((i : Int) + 1) = ((i + 1 : Nat) : Int) := by rw [IntWalk.i64_in _ (by omega)]; omega
  by_cases hil : i < l.length
  · have hi' : (i : Int) < (l.length : Int) := by omega
    obtain ⟨bb, o1, cs1, m1, ee1, rfl, gg1, gg2⟩ := (hl.keep g.m).at hil
    have hsucc := rotL_succ l i hil
    have hlen := rotL_len (l.take i)
    rw [List.length_take] at hlen
    generalize hev : l[i] = e at *
    have hz5 : aput [.int .i64 0, .int .i64 0, .string (bs []), .int .i64 0, .int .u8 0] 0 (ec e) = ec e := rfl
    have hm5 : mcells (.agg (ec e).toArray) = some (ec e) := by simp [mcells]
    have hle5 : (ec e).length = 5 := rfl
    have gp : Gr H (H.push (.cells (ec e) .ex 1)) := (Gr.refl g.cl).push (ec_bel _)
    have hYp := cellsOf_new H (ec e) .ex 1
    have gS : (ec e)[2]? = some (.string (bs e.S)) := rfl
    have ga : (ec e)[1]? = some (.int .i64 e.a) := rfl
    have gk : (ec e)[0]? = some (.int .i64 e.k) := rfl
    simp only [c58_0]
    simp [hi', aidx_of hil, gg1, gg2, apart, bs_lit, cellsOf_at, hm5, hz5, hle5, set_at]
    have hLp : LAt (H.push (.cells (ec e) .ex 1)) 2 nm vo (rotL (l.take i)).length ((rotL (l.take i)).flatMap rc) := hL.keep fun y e => by
      subst e
      have := hL.lt g.cl
      rw [push_m, if_neg (by omega)]
    have gn : Gr h (H.push (.cells (ec e) .ex 1)) := ⟨Nat.le_trans g.n gp.n, gp.cl, fun y ob e => gp.m y ob (g.m y ob e)⟩
    generalize H.push (.cells (ec e) .ex 1) = Hp at *
    have blp := bl.mono gn.n
    have gk0 : (ec e)[0] = .int .i64 e.k := rfl
    simp [gk0]
    by_cases hk : e.k = 15
    · rw [if_pos hk] at hsucc
      have hrc : (rc (e.a, e.S)).length = 2 := rfl
      have fb : afill [.int .i64 0, .string (bs [])] [(0, 1, .int .i64 e.a), (1, 1, .string (bs e.S))] = some (rc (e.a, e.S)) := rfl
      have hmr : mcells (.agg (rc (e.a, e.S)).toArray) = some (rc (e.a, e.S)) := by simp [mcells]
      have fb2 : afill [.int .i64 0, .string (bs [])] [(0, 2, .agg (rc (e.a, e.S)).toArray)] = some (rc (e.a, e.S)) := rfl
      have rbel : ∀ n, ∀ x ∈ rc (e.a, e.S), VBelow n x := fun n x hx => by
        simp [rc] at hx
        rcases hx with rfl | rfl
        · exact .int
        · exact .string
      have ge : Gr Hp (Hp.push (.cells (rc (e.a, e.S)) .ex 1)) := (Gr.refl gn.cl).push (rbel _)
      have hLe : LAt (Hp.push (.cells (rc (e.a, e.S)) .ex 1)) 2 nm vo (rotL (l.take i)).length ((rotL (l.take i)).flatMap rc) := hLp.keep fun y e => by
        subst e
        have := hLp.lt gn.cl
        rw [push_m, if_neg (by omega)]
      have haf : afirst (Hp.push (.cells (rc (e.a, e.S)) .ex 1)) 2 1 (.slice (some ⟨Hp.n, 0, none⟩) 1 1) = some (rc (e.a, e.S)) := by
        simp [afirst, cellsOf_new, acut, hrc]
        rfl
      have hne : (Hp.push (.cells (rc (e.a, e.S)) .ex 1)).n = Hp.n + 1 := rfl
      obtain ⟨a, q, v2, H5, happ, l5, keep5, n5, c5⟩ := lat_app (t := 171) (esz := 2) (bytes := 24) (k := 1) (new := rc (e.a, e.S)) ge.cl hLe (by omega) rfl (rbel _) (by omega)
      subst q
      simp [hk, hYp, apart, ga, gS, fb, fb2, bs_lit, alen, haf, happ, e1, -Int.natCast_add]
      have g5 : Gr h H5 := ⟨by have := gn.n; omega, c5, fun y ob e => keep5 y ob (ge.m y ob (gn.m y ob e)) (fun e' => by
        have := hnm y e'
        have := (hcl y ob e).1
        omega)⟩
      have hl2 : (rotL (l.take (i + 1))).length = (rotL (l.take i)).length + 1 := by rw [hsucc, List.length_append]; rfl
      have hf2 : (rotL (l.take (i + 1))).flatMap rc = (rotL (l.take i)).flatMap rc ++ rc (e.a, e.S) := by rw [hsucc, List.flatMap_append]; simp
      rw [← hl2, ← hf2] at l5
      exact ⟨⟨i + 1, H5, _, v2⟩, by show l.length - (i + 1) < l.length - i; omega, ⟨by show i + 1 ≤ l.length; omega, g5, l5, fun y e => by cases e; have := gn.n; omega⟩, ⟨g5.n, Nat.le_refl _, fun _ _ e => e, c5⟩, ⟨rfl, l5.below c5⟩, bl.mono g5.n, .int, rfl, .int⟩
    · rw [if_neg hk, List.append_nil] at hsucc
      rw [← hsucc] at hLp
      simp [hk, e1, -Int.natCast_add]
      exact ⟨⟨i + 1, Hp, nm, vo⟩, by show l.length - (i + 1) < l.length - i; omega, ⟨by show i + 1 ≤ l.length; omega, gn, hLp, hnm⟩, ⟨gn.n, Nat.le_refl _, fun _ _ e => e, gn.cl⟩, ⟨rfl, hLp.below gn.cl⟩, blp, .int, rfl, .int⟩
  · have hie : i = l.length := by omega
    subst hie
    rw [List.take_of_length_le (Nat.le_refl _)] at hL
    simp only [c58_0]
    simp
    exact ⟨lat_slG (ea := rc) (fun _ => rfl) hL rfl, g⟩
/-- bytes turned, one after the other -/
def setK (B : List Bool) (a : Int) (S : List UInt8) : Nat → List Bool
  | 0 => B
  | k + 1 => if S.getD k 0 ≠ 0 then (setK B a S k).set ((a + k) / 64).toNat true else setK B a S k
theorem setK_len (B : List Bool) (a : Int) (S : List UInt8) : ∀ k, (setK B a S k).length = B.length
  | 0 => rfl
  | k + 1 => by
    unfold setK
    split
    · rw [List.length_set, setK_len B a S k]
    · exact setK_len B a S k
def vldR (N : Nat) (r : Int × List UInt8) : Prop := 0 ≤ r.1 ∧ r.1 ≤ 64 * (N : Int) ∧ (r.2.length : Int) ≤ 64 * (N : Int) - r.1
instance (N : Nat) (r : Int × List UInt8) : Decidable (vldR N r) := inferInstanceAs (Decidable (_ ∧ _))
def hitR (N : Nat) (B : List Bool) (r : Int × List UInt8) : List Bool := if vldR N r then setK B r.1 r.2 r.2.length else B
def hitB (N : Nat) (L : List (Int × List UInt8)) : List Bool := L.foldl (hitR N) (List.replicate N false)
theorem hitR_len (N : Nat) (B : List Bool) (r : Int × List UInt8) : (hitR N B r).length = B.length := by
  unfold hitR
  split
  · exact setK_len _ _ _ _
  · rfl
theorem hitB_len' (N : Nat) : ∀ (L : List (Int × List UInt8)) (B : List Bool), (L.foldl (hitR N) B).length = B.length
  | [], _ => rfl
  | r :: L, B => by rw [List.foldl_cons, hitB_len' N L, hitR_len]
theorem hitB_len (N : Nat) (L : List (Int × List UInt8)) : (hitB N L).length = N := by
  unfold hitB
  rw [hitB_len', List.length_replicate]
theorem hitB_succ (N : Nat) (L : List (Int × List UInt8)) (i : Nat) (h : i < L.length) : hitB N (L.take (i + 1)) = hitR N (hitB N (L.take i)) L[i] := by
  unfold hitB
  rw [List.take_succ_eq_append_getElem h, List.foldl_append]
  rfl
def bls (B : List Bool) : List Value := B.map Value.bool
theorem bls_len (B : List Bool) : (bls B).length = B.length := List.length_map _
theorem bls_bel {n : Nat} {B : List Bool} : ∀ x ∈ bls B, VBelow n x := fun x hx => by obtain ⟨y, _, rfl⟩ := List.mem_map.1 hx; exact .bool
theorem bls_set (B : List Bool) (x : Nat) (hx : x < B.length) : aput (bls B) x [.bool true] = bls (B.set x true) := by
  unfold aput bls
  rw [List.map_set, List.set_eq_take_append_cons_drop, if_pos (by rw [List.length_map]; exact hx)]
  simp
theorem slG_at2 {h : Heap} {a : Option Addr} {n c : Nat} {l : List (Int × List UInt8)} (s : SlG rc 2 h (.slice a n c) l) {i : Nat} (hi : i < l.length) :
    ∃ b o cs m e, a = some ⟨b, o, none⟩ ∧ n = l.length ∧ h.cellsOf b = some (cs, m, e) ∧ cs[o + i * 2]? = some (.int .i64 l[i].1) ∧ cs[o + i * 2 + 1]? = some (.string (bs l[i].2)) := by
  rcases s with ⟨c, _, rfl⟩ | ⟨b, o, cap, c, m, e, h1, h2, h3, _, h4⟩
  · simp at hi
  · simp only [Value.slice.injEq] at h1
    obtain ⟨rfl, rfl, _⟩ := h1
    have q := h4 i hi
    unfold acut at q
    split at q
    · simp only [Option.some.injEq] at q
      have q0 := congrArg (fun l => l[0]?) q
      have q1 := congrArg (fun l => l[1]?) q
      refine ⟨b, o, c, m, e, rfl, rfl, h2, ?_, ?_⟩
      · simpa [rc] using q0
      · simpa [rc] using q1
    · cases q
theorem slG_form {α : Type} {ea : α → List Value} {n : Nat} {h : Heap} {v : Value} {l : List α} (s : SlG ea n h v l) : ∃ a c, v = .slice a l.length c := by
  rcases s with ⟨c, rfl, rfl⟩ | ⟨b, o, cap, c, m, e, rfl, _⟩
  · exact ⟨_, _, rfl⟩
  · exact ⟨_, _, rfl⟩
theorem slG_below {α : Type} {ea : α → List Value} {n : Nat} {h : Heap} {v : Value} {l : List α} (s : SlG ea n h v l) (hc : h.Closed) : VBelow h.n v := by
  rcases s with ⟨c, rfl, rfl⟩ | ⟨b, o, cap, c, m, e, rfl, h2, _⟩
  · exact .snil
  · exact .slice (cellsOf_lt hc h2)
theorem fl_bls : ∀ N : Nat, (List.replicate N [Value.bool false]).flatten = bls (List.replicate N false)
  | 0 => rfl
  | n + 1 => by
    have ih := fl_bls n
    unfold bls at ih ⊢
    rw [List.replicate_succ, List.flatten_cons, ih, List.replicate_succ]
    rfl
set_option maxHeartbeats 2000000 in
theorem refHits_ok (N : Nat) (hN : N ≤ 100000) (L : List (Int × List UInt8)) (v : Value) (h : Heap) (hl : SlG rc 2 h v L) (hln : L.length ≤ 1000000) :
    ACalls Try.prog 57 [.int .i64 N, v] h fun r h' => Sl Value.bool h' r (hitB N L) ∧ Gr h h' ∧ ∀ bb o n c, r = .slice (some ⟨bb, o, none⟩) n c → h.n ≤ bb := by
  refine acalls_of mix Try.func57 k57 n57 (by simp) fun hcl hb => ?_
  have bl := slG_below hl hcl
  obtain ⟨ad, c, rfl⟩ := slG_form hl
  have hz := fl_bls N
  have g1 : ∀ B : List Bool, Gr h (h.push (.cells (bls B) .ex 1)) := fun B => (Gr.refl hcl).push bls_bel
  have hN1 : (N : Int) * 2 ≤ 1099511627776 := by omega
  simp [c57, hz, hN1]
  show awp _ _ _ _ _ _
  refine awp_loop_of (α := Nat) (fun i => i ≤ L.length)
    (fun i => [(0, .int .i64 N), (1, .slice ad L.length c), (5, .slice (some ⟨h.n, 0, none⟩) N N), (6, .int .i64 i)]) (fun i => h.push (.cells (bls (hitB N (L.take i))) .ex 1)) (fun i => L.length - i) 0
    (Nat.zero_le _) ⟨Nat.le_succ _, Nat.le_refl _, fun _ _ e => e, (g1 _).cl⟩ (by simp; exact ⟨.int, bl.mono (Nat.le_succ _), vb_slice (Nat.lt_succ_self _), .int⟩) ?_
  intro i hi
  by_cases hil : i < L.length
  · have hi' : (i : Int) < (L.length : Int) := by omega
    have hsucc := hitB_succ N L i hil
    have hBl := hitB_len N (L.take i)
    obtain ⟨b, o, cs, m, e, rfl, _, x1, x2, x3⟩ := slG_at2 hl hil
    have hidx := aidx_of (k := .i64) hil
    have w64 : IntKind.i64.wrap (64 * (N : Int)) = 64 * (N : Int) := IntWalk.i64_in _ (by omega)
    have e1 : IntKind.i64.wrap ((i : Int) + 1) = ((i + 1 : Nat) : Int) := by rw [IntWalk.i64_in _ (by omega)]; omega
    generalize hitB N (L.take i) = B at *
    generalize hr : L[i] = r at *
    have x1p := cellsOf_keep (g1 B).m x1
    simp only [c57_0]
    simp [hi', hidx, x1p, x2, x3, apart, w64, bs_size]
    have skip : ¬ vldR N r → ∃ y, L.length - y < L.length - i ∧ y ≤ L.length ∧ Heap.Sub h.n (h.push (.cells (bls (hitB N (L.take y))) .ex 1)) (h.push (.cells (bls B) .ex 1)) ∧ VBelow (h.n + 1) (.int .i64 N) ∧ VBelow (h.n + 1) (.slice (some ⟨b, o, none⟩) L.length c) ∧ VBelow (h.n + 1) (.slice (some ⟨h.n, 0, none⟩) N N) ∧ ((i + 1 : Nat) : Int) = (y : Int) ∧ VBelow (h.n + 1) (.int .i64 y) := fun hv => by
      have ha : hitB N (L.take (i + 1)) = B := by rw [hsucc]; unfold hitR; rw [if_neg hv]
      exact ⟨i + 1, by omega, by omega, by rw [ha]; exact ⟨Nat.le_succ _, Nat.le_refl _, fun _ _ e => e, (g1 _).cl⟩, .int, bl.mono (Nat.le_succ _), vb_slice (Nat.lt_succ_self _), rfl, .int⟩
    by_cases v1 : r.1 < 0
    · simp [v1, e1, -Int.natCast_add]
      exact skip fun q => by have := q.1; omega
    · simp [v1, hidx, x1p, x2, x3, apart, w64, bs_size]
      by_cases v2 : 64 * (N : Int) < r.1
      · simp [v2, e1, -Int.natCast_add]
        exact skip fun q => by have := q.2.1; omega
      · have wsb : IntKind.i64.wrap (64 * (N : Int) - r.1) = 64 * (N : Int) - r.1 := IntWalk.i64_in _ (by omega)
        simp [v2, hidx, x1p, x2, x3, apart, w64, wsb, bs_size]
        by_cases v3 : 64 * (N : Int) - r.1 < (r.2.length : Int)
        · simp [v3, e1, -Int.natCast_add]
          exact skip fun q => by have := q.2.2; omega
        · have hv : vldR N r := ⟨by omega, by omega, by omega⟩
          simp [v3]
          refine awp_loop_of (α := Nat) (fun k => k ≤ r.2.length)
            (fun k => [(0, .int .i64 N), (1, .slice (some ⟨b, o, none⟩) L.length c), (5, .slice (some ⟨h.n, 0, none⟩) N N), (6, .int .i64 i), (7, .int .i64 k)]) (fun k => h.push (.cells (bls (setK B r.1 r.2 k)) .ex 1)) (fun k => r.2.length - k) 0
            (Nat.zero_le _) ⟨Nat.le_succ _, Nat.le_refl _, fun _ _ e => e, (g1 B).cl⟩ (by simp; exact ⟨.int, bl.mono (Nat.le_succ _), vb_slice (Nat.lt_succ_self _), .int, .int⟩) ?_
          intro k hk
          have hkl := setK_len B r.1 r.2 k
          have hks : setK B r.1 r.2 (k + 1) = if r.2.getD k 0 ≠ 0 then (setK B r.1 r.2 k).set ((r.1 + k) / 64).toNat true else setK B r.1 r.2 k := rfl
          have x1k := cellsOf_keep (g1 (setK B r.1 r.2 k)).m x1
          have xX := cellsOf_new h (bls (setK B r.1 r.2 k)) .ex 1
          have ek : IntKind.i64.wrap ((k : Int) + 1) = ((k + 1 : Nat) : Int) := by rw [IntWalk.i64_in _ (by omega)]; omega
          by_cases hkr : k < r.2.length
          · have hk' : (k : Int) < (r.2.length : Int) := by omega
            have hgd : r.2.getD k 0 = r.2[k] := by rw [List.getD, List.getElem?_eq_getElem hkr]; rfl
            simp only [c57_2]
            simp [hidx, x1k, x2, x3, apart, bs_size, hk', aidx_of hkr, bs_data, hkr]
            by_cases hz0 : r.2[k] = 0
            · have ha : setK B r.1 r.2 (k + 1) = setK B r.1 r.2 k := by rw [hks, hgd, if_neg (by simp [hz0])]
              simp [hz0, ek, -Int.natCast_add]
              exact ⟨k + 1, by omega, by omega, by rw [ha]; exact ⟨Nat.le_succ _, Nat.le_refl _, fun _ _ e => e, (g1 _).cl⟩, .int, bl.mono (Nat.le_succ _), vb_slice (Nat.lt_succ_self _), .int, rfl, .int⟩
            · have hz' : ¬ r.2[k].toNat = 0 := fun q => hz0 (UInt8.toNat_inj.1 q)
              obtain ⟨hv1, hv2, hv3⟩ := hv
              have wa : IntKind.i64.wrap (r.1 + (k : Int)) = r.1 + k := IntWalk.i64_in _ (by omega)
              have wq : IntKind.i64.wrap ((r.1 + (k : Int)).tdiv 64) = (r.1 + k) / 64 := by rw [tdiv_pos (by omega), IntWalk.i64_in _ (by omega)]
              have ha : setK B r.1 r.2 (k + 1) = (setK B r.1 r.2 k).set ((r.1 + k) / 64).toNat true := by rw [hks, hgd, if_pos hz0]
              obtain ⟨x, hx⟩ : ∃ x : Nat, (r.1 + (k : Int)) / 64 = x := ⟨((r.1 + (k : Int)) / 64).toNat, by omega⟩
              have hxN : x < N := by omega
              rw [hx] at ha wq
              have hst := bls_set (setK B r.1 r.2 k) x (by omega)
              rw [Int.toNat_natCast] at ha
              rw [← ha] at hst
              have hlx : x + 1 ≤ (bls (setK B r.1 r.2 k)).length := by rw [bls_len]; omega
              simp [hz', hidx, x1k, x2, x3, apart, wa, wq, aidx_of hxN, xX, mcells, hlx, hst, set_at, ek, -Int.natCast_add]
              exact ⟨k + 1, by omega, by omega, ⟨Nat.le_succ _, Nat.le_refl _, fun _ _ e => e, (g1 _).cl⟩, .int, bl.mono (Nat.le_succ _), vb_slice (Nat.lt_succ_self _), .int, rfl, .int⟩
          · have hke : k = r.2.length := by omega
            subst hke
            have ha : hitB N (L.take (i + 1)) = setK B r.1 r.2 r.2.length := by rw [hsucc]; unfold hitR; rw [if_pos hv]
            simp only [c57_2]
            simp [hidx, x1k, x3, apart, bs_size, e1, -Int.natCast_add]
            exact ⟨i + 1, by omega, by omega, by rw [ha]; exact ⟨Nat.le_succ _, Nat.le_refl _, fun _ _ e => e, (g1 _).cl⟩, .int, bl.mono (Nat.le_succ _), vb_slice (Nat.lt_succ_self _), rfl, .int⟩
  · have hie : i = L.length := by omega
    subst hie
    simp only [c57_0]
    simp
    have hBl := hitB_len N L
    refine ⟨.inr ⟨h.n, 0, N, bls (hitB N L), .ex, 1, by rw [hBl], cellsOf_new _ _ _ _, by omega, fun _ => by rw [bls_len]; omega, fun i hi => by simp [bls, hi]⟩, g1 _, fun bb o n c q _ _ _ => by omega⟩
theorem set_getD (B : List Bool) (y x : Nat) : (B.set y true).getD x false = true ↔ B.getD x false = true ∨ (y = x ∧ x < B.length) := by
  rw [List.getD, List.getD, List.getElem?_set]
  by_cases h : y = x
  · subst h
    by_cases h2 : y < B.length
    · simp [h2]
    · simp [h2]
  · simp [h]
theorem setK_getD (B : List Bool) (a : Int) (S : List UInt8) (x : Nat) : ∀ k, (setK B a S k).getD x false = true ↔ B.getD x false = true ∨ (x < B.length ∧ ∃ j, j < k ∧ S.getD j 0 ≠ 0 ∧ ((a + j) / 64).toNat = x)
  | 0 => ⟨.inl, fun q => by
    rcases q with q | ⟨_, j, h, _⟩
    · exact q
    · cases h⟩
  | k + 1 => by
    have ih := setK_getD B a S x k
    show (if S.getD k 0 ≠ 0 then (setK B a S k).set ((a + k) / 64).toNat true else setK B a S k).getD x false = true ↔ _
    by_cases h : S.getD k 0 ≠ 0
    · rw [if_pos h, set_getD, ih, setK_len]
      constructor
      · rintro ((q | ⟨q, j, h1, h2, h3⟩) | ⟨q1, q2⟩)
        · exact .inl q
        · exact .inr ⟨q, j, by omega, h2, h3⟩
        · exact .inr ⟨q2, k, by omega, h, q1⟩
      · rintro (q | ⟨q, j, h1, h2, h3⟩)
        · exact .inl (.inl q)
        · by_cases e : j = k
          · subst e
            exact .inr ⟨h3, q⟩
          · exact .inl (.inr ⟨q, j, by omega, h2, h3⟩)
    · rw [if_neg h, ih]
      constructor
      · rintro (q | ⟨q, j, h1, h2, h3⟩)
        · exact .inl q
        · exact .inr ⟨q, j, by omega, h2, h3⟩
      · rintro (q | ⟨q, j, h1, h2, h3⟩)
        · exact .inl q
        · by_cases e : j = k
          · subst e
            exact absurd h2 h
          · exact .inr ⟨q, j, by omega, h2, h3⟩
theorem hitB_getD' (N x : Nat) : ∀ (L : List (Int × List UInt8)) (B : List Bool), (L.foldl (hitR N) B).getD x false = true ↔ B.getD x false = true ∨ (x < B.length ∧ ∃ r, r ∈ L ∧ vldR N r ∧ ∃ j, j < r.2.length ∧ r.2.getD j 0 ≠ 0 ∧ ((r.1 + j) / 64).toNat = x)
  | [], B => ⟨.inl, fun q => by
    rcases q with q | ⟨_, r, h, _⟩
    · exact q
    · cases h⟩
  | r :: L, B => by
    rw [List.foldl_cons, hitB_getD' N x L, hitR_len]
    have h2 : (hitR N B r).getD x false = true ↔ B.getD x false = true ∨ (x < B.length ∧ vldR N r ∧ ∃ j, j < r.2.length ∧ r.2.getD j 0 ≠ 0 ∧ ((r.1 + j) / 64).toNat = x) := by
      unfold hitR
      split
      · rename_i hv
        rw [setK_getD]
        simp only [hv, true_and]
      · rename_i hv
        simp only [hv, false_and, and_false, or_false]
    rw [h2]
    constructor
    · rintro ((q | ⟨q1, q2, q3⟩) | ⟨q1, f, h3, h4⟩)
      · exact .inl q
      · exact .inr ⟨q1, r, List.mem_cons_self, q2, q3⟩
      · exact .inr ⟨q1, f, List.mem_cons_of_mem _ h3, h4⟩
    · rintro (q | ⟨q1, f, h3, h4⟩)
      · exact .inl (.inl q)
      · rcases List.mem_cons.1 h3 with rfl | h3
        · exact .inl (.inr ⟨q1, h4⟩)
        · exact .inr ⟨q1, f, h3, h4⟩
theorem nS_all {d p s : Int} (hr : right d p s = true) : ((nS d p s : Nat) : Int) = allS d p s ∧ allS d p s = 3 * slot d p s + 18 := by
  unfold nS allS
  rw [if_pos hr]
  have := slot_bound (d := d) (p := p) (s := s)
  omega
theorem hitB_iff {d p s : Int} (hr : right d p s = true) (l : List Ev) (x : Nat) : (hitB (nS d p s) (rotL l)).getD x false = true ↔ ∃ e, e ∈ l ∧ hitE d p s e (x : Int) := by
  have hN := nS_all hr
  unfold hitB
  rw [hitB_getD']
  have h0 : ¬ (List.replicate (nS d p s) false).getD x false = true := by
    rw [List.getD, List.getElem?_replicate]
    split <;> simp
  rw [List.length_replicate]
  simp only [h0, Bool.false_eq_true, false_or]
  constructor
  · rintro ⟨hx, r, hm, ⟨v1, v2, v3⟩, j, j1, j2, j3⟩
    unfold rotL at hm
    obtain ⟨e, he, rfl⟩ := List.mem_map.1 hm
    rw [List.mem_filter] at he
    obtain ⟨he, hk⟩ := he
    simp only at v1 v2 v3 j1 j2 j3
    have hk : e.k = 15 := by simpa using hk
    refine ⟨e, he, ⟨hk, v1, ?_, ?_⟩, j, j1, j2, by omega⟩
    · unfold endS; omega
    · unfold endS; omega
  · rintro ⟨e, he, ⟨hk, v1, v2, v3⟩, j, j1, j2, j3⟩
    unfold endS at v2 v3
    refine ⟨by omega, (e.a, e.S), ?_, ⟨v1, by show e.a ≤ 64 * (nS d p s : Int); omega, by show (e.S.length : Int) ≤ 64 * (nS d p s : Int) - e.a; omega⟩, j, j1, j2, by show ((e.a + j) / 64).toNat = x; omega⟩
    unfold rotL
    exact List.mem_map.2 ⟨e, List.mem_filter.2 ⟨he, by simpa using hk⟩, rfl⟩
theorem hitE_lim {d p s : Int} {e : Ev} {x : Int} (h : hitE d p s e x) : 0 ≤ x ∧ x < allS d p s := by
  obtain ⟨⟨hk, v1, v2, v3⟩, j, j1, j2, j3⟩ := h
  unfold endS at v2 v3
  omega
theorem place_zero {d p s n : Int} : (place d p s n).1 = 0 ↔ n < 3 * slot d p s := by
  unfold place
  split
  · rename_i h
    simp [h]
  · rename_i h
    split
    · simp [h]
    · simp [h]
theorem place_plc {d p s n : Int} (h : n < 3 * slot d p s) : ((place d p s n).2.1, (place d p s n).2.2.1) = plc d p s n := by
  unfold place
  rw [if_pos h]
  rfl
theorem mny_filter (d p s : Int) (B : List Bool) (q : Int × Int) : ∀ n, mny d p s B q n = ((List.range n).filter (cnd d p s B q)).length
  | 0 => rfl
  | n + 1 => by
    rw [List.range_succ, List.filter_append, List.length_append, ← mny_filter d p s B q n]
    show mny d p s B q n + _ = _
    congr 1
    by_cases h : cnd d p s B q n
    · simp [h]
    · simp [h]
theorem cnd_iff {d p s : Int} {B : List Bool} {q : Int × Int} {j : Nat} : cnd d p s B q j = true ↔ B.getD j false = true ∧ (j : Int) < 3 * slot d p s ∧ plc d p s j = q := by
  unfold cnd
  rw [Bool.and_eq_true, Bool.and_eq_true, Bool.and_eq_true, decide_eq_true_iff, decide_eq_true_iff, decide_eq_true_iff, place_zero]
  constructor
  · rintro ⟨⟨⟨h1, h2⟩, h3⟩, h4⟩
    refine ⟨h4, h1, ?_⟩
    rw [← place_plc h1, h2, h3]
  · rintro ⟨h4, h1, h2⟩
    rw [← place_plc h1] at h2
    rw [← h2]
    exact ⟨⟨⟨h1, rfl⟩, rfl⟩, h4⟩
theorem mny_cnt {d p s : Int} (hr : right d p s = true) (l : List Ev) (q : Int × Int) : mny d p s (hitB (nS d p s) (rotL l)) q (nS d p s) = cnt d p s (addL d p s ([], false) l).1 q := by
  have hN := nS_all hr
  have hmem : ∀ x, x ∈ (addL d p s ([], false) l).1 ↔ (∃ e, e ∈ l ∧ hitE d p s e x) ∧ inS d p s x := fun x => by
    rw [addL_mem]
    simp
  have hnd := addL_nd (d := d) (p := p) (s := s) (l := l) (st := ([], false)) List.nodup_nil
  rw [mny_filter, cnt_filter]
  have hnr : ((List.range (nS d p s)).filter (cnd d p s (hitB (nS d p s) (rotL l)) q)).Nodup := List.nodup_range.filter _
  refine Nat.le_antisymm ?_ ?_
  · have key : (((List.range (nS d p s)).filter (cnd d p s (hitB (nS d p s) (rotL l)) q)).map (fun j : Nat => (j : Int))).length ≤ ((addL d p s ([], false) l).1.filter fun x => plc d p s x == q).length := by
      refine sub_len ?_ fun x hx => ?_
      · unfold List.Nodup
        rw [List.pairwise_map]
        exact hnr.imp fun hab e => hab (by omega)
      · obtain ⟨j, hj, rfl⟩ := List.mem_map.1 hx
        rw [List.mem_filter] at hj
        obtain ⟨h1, h2, h3⟩ := cnd_iff.1 hj.2
        rw [List.mem_filter]
        exact ⟨(hmem _).2 ⟨(hitB_iff hr l j).1 h1, by unfold inS; omega⟩, by simpa using h3⟩
    rw [List.length_map] at key
    exact key
  · have key : ((addL d p s ([], false) l).1.filter fun x => plc d p s x == q).length ≤ (((List.range (nS d p s)).filter (cnd d p s (hitB (nS d p s) (rotL l)) q)).map (fun j : Nat => (j : Int))).length := by
      refine sub_len (hnd.filter _) fun x hx => ?_
      rw [List.mem_filter] at hx
      obtain ⟨hx, h3⟩ := hx
      have h3 : plc d p s x = q := by simpa using h3
      obtain ⟨he, h1, h2⟩ := (hmem x).1 hx
      obtain ⟨j, rfl⟩ : ∃ j : Nat, x = (j : Int) := ⟨x.toNat, by omega⟩
      exact List.mem_map.2 ⟨j, List.mem_filter.2 ⟨List.mem_range.2 (by omega), cnd_iff.2 ⟨(hitB_iff hr l j).2 he, by omega, h3⟩⟩, rfl⟩
    rw [List.length_map] at key
    exact key
theorem rwth_iff {d p s : Int} (hr : right d p s = true) (l : List Ev) : rwth d p s (hitB (nS d p s) (rotL l)) ↔ wth d p s (addL d p s ([], false) l).1 (addL d p s ([], false) l).2 := by
  have hN := nS_all hr
  have hp := right_prop.1 hr
  have hmem : ∀ x, x ∈ (addL d p s ([], false) l).1 ↔ (∃ e, e ∈ l ∧ hitE d p s e x) ∧ inS d p s x := fun x => by
    rw [addL_mem]
    simp
  constructor
  · intro h
    refine ⟨?_, fun q => ?_⟩
    · cases ho : (addL d p s ([], false) l).2 with
      | false => rfl
      | true =>
        rw [addL_oth] at ho
        rcases ho with ho | ⟨e, x, he, hx, hi⟩
        · cases ho
        · obtain ⟨l1, l2⟩ := hitE_lim hx
          obtain ⟨j, rfl⟩ : ∃ j : Nat, x = (j : Int) := ⟨x.toNat, by omega⟩
          have := (h j (by omega) ((hitB_iff hr l j).2 ⟨e, he, hx⟩)).1
          rw [place_zero] at this
          exact absurd ⟨by omega, by omega⟩ hi
    · by_cases hz : cnt d p s (addL d p s ([], false) l).1 q = 0
      · rw [hz]
        show (0 : Int) ≤ p / 2
        omega
      · have : q ∈ ((addL d p s ([], false) l).1).map (plc d p s) := by
          unfold cnt at hz
          exact List.count_pos_iff.1 (by omega)
        obtain ⟨x, hx, rfl⟩ := List.mem_map.1 this
        obtain ⟨he, h1, h2⟩ := (hmem x).1 hx
        obtain ⟨j, rfl⟩ : ∃ j : Nat, x = (j : Int) := ⟨x.toNat, by omega⟩
        have := (h j (by omega) ((hitB_iff hr l j).2 he)).2
        rw [place_plc (by omega), mny_cnt hr] at this
        exact this
  · rintro ⟨ho, hc⟩ j hj hb
    have he := (hitB_iff hr l j).1 hb
    have hin : inS d p s (j : Int) := by
      by_cases hi : inS d p s (j : Int)
      · exact hi
      · obtain ⟨e, he1, he2⟩ := he
        have : (addL d p s ([], false) l).2 = true := addL_oth.2 (.inr ⟨e, j, he1, he2, hi⟩)
        rw [ho] at this
        cases this
    have h3 : (j : Int) < 3 * slot d p s := by have := hin.2; omega
    refine ⟨place_zero.2 h3, ?_⟩
    rw [place_plc h3, mny_cnt hr]
    exact hc _
theorem tells_t {v : Value} {W : Prop} (t : Tells v W) (w : W) : v = .bool true := by
  obtain ⟨x, rfl, q⟩ := t
  rw [q.2 w]
theorem tells_f {v : Value} {W : Prop} (t : Tells v W) (w : ¬ W) : v = .bool false := by
  obtain ⟨x, rfl, q⟩ := t
  cases x with
  | false => rfl
  | true => exact absurd (q.1 rfl) w
theorem sl_keepb {α : Type} {enc : α → Value} {h h' : Heap} {v : Value} {l : List α} (s : Sl enc h v l) (hk : ∀ bb o n c, v = .slice (some ⟨bb, o, none⟩) n c → ∀ ob, h.m bb = some ob → h'.m bb = some ob) : Sl enc h' v l := by
  rcases s with ⟨c, rfl, rfl⟩ | ⟨b, o, cap, c, m, e, rfl, h2, h3, h4, h5⟩
  · exact .inl ⟨c, rfl, rfl⟩
  · refine .inr ⟨b, o, cap, c, m, e, rfl, ?_, h3, h4, h5⟩
    have := hk b o _ _ rfl _ (m_of_cells h2)
    unfold Heap.cellsOf
    rw [this]
set_option maxHeartbeats 2000000 in
theorem bhits_law (d p s : Int) (l : List Ev) (v : Value) (h : Heap) (hl0 : SlG ec 5 h v l) (hln : l.length ≤ 9223372036854775807) : ACalls Try.prog 11 [gv d p s, v] h fun v _ => v = .bool true := by
  refine acalls_of mix Try.func11 k11 n11 (by simp) fun hcl hb => ?_
  have hl := slG_ec hl0
  have bl := hl.below hcl
  obtain ⟨ad, c, rfl⟩ := hl.form
  have hf := cellsOf_new h [.int .i64 d, .int .i64 p, .int .i64 s] .ex 1
  have g1 : Gr h (h.push (.cells [.int .i64 d, .int .i64 p, .int .i64 s] .ex 1)) := (Gr.refl hcl).push gv_bel
  have ac : acut [.int .i64 d, .int .i64 p, .int .i64 s] 0 3 = some [.int .i64 d, .int .i64 p, .int .i64 s] := rfl
  have pg : aput [.int .i64 0, .int .i64 0, .int .i64 0] 0 [.int .i64 d, .int .i64 p, .int .i64 s] = [.int .i64 d, .int .i64 p, .int .i64 s] := rfl
  have mg : mcells (.agg #[.int .i64 d, .int .i64 p, .int .i64 s]) = some [.int .i64 d, .int .i64 p, .int .i64 s] := rfl
  simp only [c11, s_seq, s_ops]
  simp [gv, mcells]
  have hl1 := hl.keep g1.m
  have hn1 : (h.push (.cells [.int .i64 d, .int .i64 p, .int .i64 s] .ex 1)).n = h.n + 1 := rfl
  generalize h.push (.cells [.int .i64 d, .int .i64 p, .int .i64 s] .ex 1) = H at *
  refine (bawake_ok _).mono ?_
  rintro _ h9 ⟨rfl, e⟩
  rw [e]
  clear e h9
  simp [aun]
  refine (great_ok l _ _ hl1 hln).mono ?_
  rintro _ h9 ⟨rfl, e⟩
  rw [e]
  clear e h9
  simp
  cases hgr : greatV l with
  | true => simp [hgr]
  | false =>
  have h60 : l.length ≤ 60 := by
    unfold greatV at hgr
    rw [Bool.or_eq_false_iff] at hgr
    simpa using hgr.1
  simp [hgr, hf, apart, ac]
  have bn := bnew_ok d p s H
  unfold gv at bn
  refine bn.mono ?_
  rintro _ H2 ⟨q, g2⟩
  have hf2 := cellsOf_keep g2.m hf
  have hl2 := hl1.keep g2.m
  have k12 : ∀ y ob, h.m y = some ob → H2.m y = some ob := fun y ob e => g2.m y ob (g1.m y ob e)
  have g3 : Gr H2 (H2.push (.cells [.int .i64 d, .int .i64 p, .int .i64 s] .ex 1)) := (Gr.refl g2.cl).push gv_bel
  have hf3 := cellsOf_keep g3.m hf2
  have hw3 := cellsOf_new H2 [.int .i64 d, .int .i64 p, .int .i64 s] .ex 1
  have hl3 := hl2.keep g3.m
  have hn3 : (H2.push (.cells [.int .i64 d, .int .i64 p, .int .i64 s] .ex 1)).n = H2.n + 1 := rfl
  cases hr : right d p s with
  | false =>
    rw [hr] at q
    obtain rfl : _ = _ := q
    simp [hf2, apart, ac, pg, mg, set_at, cellsOf_at]
    generalize H2.push (.cells [.int .i64 d, .int .i64 p, .int .i64 s] .ex 1) = H3 at *
    have rr := refRight_ok d p s H3
    unfold gv at rr
    refine rr.mono ?_
    rintro _ h9 ⟨rfl, e⟩
    rw [e, hr]
    clear e h9 rr
    simp [aun, aeq, hf3, apart, ac]
    have bi := bin_ok d p s l _ H3 hl3 (by omega)
    unfold gv at bi
    refine bi.mono ?_
    rintro v h9 ⟨t, e⟩
    have hni : ¬ inW d p s l := fun q => by
      have := q.1
      rw [hr] at this
      cases this
    rw [e, tells_f t hni]
    clear e h9 t bi
    simp [aun, hf3, apart, ac]
    have bt := btrim_no d p s hr (.slice ad l.length c) H3
    unfold gv at bt
    refine bt.mono ?_
    rintro _ h9 ⟨rfl, e⟩
    rw [e]
    clear e h9 bt
    simp [hf3, apart, ac]
    have bs' := bsteps_ok d p s 1 H3
    unfold gv at bs'
    rw [hr] at bs'
    refine bs'.mono ?_
    rintro _ h9 ⟨rfl, e⟩
    rw [e]
    clear e h9 bs'
    simp [hf3, apart, ac]
    have bb := bbound_ok d p s H3
    unfold gv at bb
    rw [hr] at bb
    refine bb.mono ?_
    rintro _ h9 ⟨rfl, e⟩
    rw [e]
    clear e h9 bb
    simp
  | true =>
    rw [hr, if_pos rfl] at q
    obtain ⟨b, mh, mm, rfl, B, q1, q2, q3⟩ := q
    have hp := right_prop.1 hr
    simp [hf2, apart, ac, pg, mg, set_at, cellsOf_at]
    have B3 := bud_keep B g3.m
    have k13 : ∀ y ob, h.m y = some ob → (H2.push (.cells [.int .i64 d, .int .i64 p, .int .i64 s] .ex 1)).m y = some ob := fun y ob e => g3.m y ob (k12 y ob e)
    generalize H2.push (.cells [.int .i64 d, .int .i64 p, .int .i64 s] .ex 1) = H3 at *
    have rr := refRight_ok d p s H3
    unfold gv at rr
    refine rr.mono ?_
    rintro _ h9 ⟨rfl, e⟩
    rw [e, hr]
    clear e h9 rr
    simp [aun, aeq, hf3, apart, ac]
    have al := all_ok d p s H3
    unfold gv at al
    refine al.mono ?_
    rintro _ h9 ⟨rfl, e⟩
    rw [e, ← (nS_all hr).1]
    clear e h9 al
    simp
    refine (rots_ok l _ H3 hl3 (by omega)).mono ?_
    rintro rv H4 ⟨hrv, g4⟩
    have hrl := rotL_len l
    simp
    have hNle := nS_le d p s
    refine (refHits_ok (nS d p s) (by omega) (rotL l) rv H4 hrv (by omega)).mono ?_
    rintro hv H5 ⟨hhv, g5, hvb⟩
    have g35 : Gr H3 H5 := ⟨Nat.le_trans g4.n g5.n, g5.cl, fun y ob e => g5.m y ob (g4.m y ob e)⟩
    have hw5 := cellsOf_keep g35.m hw3
    have hf5 := cellsOf_keep g35.m hf3
    have B5 := bud_keep B3 g35.m
    have hl5 := hl3.keep g35.m
    have hBl := hitB_len (nS d p s) (rotL l)
    simp [hw5, apart, ac]
    have rw5 := refWithin_ok d p s hr _ hBl hv H5 hhv
    unfold gv at rw5
    refine rw5.mono ?_
    rintro _ h9 ⟨⟨tw, rfl, htw⟩, e⟩
    rw [e]
    clear e h9 rw5
    rw [rwth_iff hr] at htw
    simp
    have b2n := bud_lt g2.cl B
    have n34 := g4.n
    have n45 := g5.n
    have k15 : ∀ y ob, h.m y = some ob → H5.m y = some ob := fun y ob e => g35.m y ob (k13 y ob e)
    have kH : ∀ Z, BFr H5 b mh mm Z → ∀ y ob, h.m y = some ob → Z.m y = some ob := fun Z f => old3 hcl k15 (by have := g1.n; omega) (by have := g1.n; omega) (by have := g1.n; omega) f
    refine (badd_ok (st := ([], false)) B5 l _ (fun Z f => hl.keep (kH Z f)) (by omega)).mono ?_
    rintro r1 H6 ⟨⟨t1, rfl, ht1⟩, B6, f6, c6⟩
    have h1w : t1 = tw := by rw [Bool.eq_iff_iff, ht1, htw]
    subst h1w
    have n6 := f6.n
    have hHb : ∀ y, y < H.n → (∀ ob, H5.m y = some ob → H6.m y = some ob) := fun y hy ob e => f6.m y ob e (by omega) (by omega) (by omega)
    have hf6 : H6.cellsOf h.n = some ([.int .i64 d, .int .i64 p, .int .i64 s], .ex, 1) := by
      have := hHb h.n (by omega) _ (m_of_cells hf5)
      unfold Heap.cellsOf
      rw [this]
    have hw6 : H6.cellsOf H2.n = some ([.int .i64 d, .int .i64 p, .int .i64 s], .ex, 1) := by
      have := f6.m H2.n _ (m_of_cells hw5) (by omega) (by omega) (by omega)
      unfold Heap.cellsOf
      rw [this]
    have hv6 : Sl Value.bool H6 hv (hitB (nS d p s) (rotL l)) := sl_keepb hhv fun bb o n c q ob e => by
      have := hvb bb o n c q
      exact f6.m bb ob e (by omega) (by omega) (by omega)
    have hl6 := hl.keep (kH H6 f6)
    simp [aeq]
    refine (bwithin_ok B6 (by have := B6.len; omega)).mono ?_
    rintro _ h9 ⟨⟨x1, rfl, hx1⟩, e⟩
    rw [e]
    clear e h9
    have hx : x1 = t1 := by rw [Bool.eq_iff_iff, hx1, htw]
    subst hx
    simp [hf6, apart, ac, aeq]
    have bi := bin_ok d p s l _ H6 hl6 (by omega)
    unfold gv at bi
    refine bi.mono ?_
    rintro _ h9 ⟨⟨x2, rfl, hx2⟩, e⟩
    rw [e]
    clear e h9 bi
    have hx : x2 = x1 := by
      rw [Bool.eq_iff_iff, hx2, htw]
      unfold inW
      simp [hr]
    subst hx
    simp [aeq]
    have hm := fun q => mny_cnt hr l q
    have hBl' := hBl
    have h30 : cnt d p s (addL d p s ([], false) l).1 (3, 0) = 0 := by
      by_cases hz : cnt d p s (addL d p s ([], false) l).1 (3, 0) = 0
      · exact hz
      · have : ((3 : Int), (0 : Int)) ∈ ((addL d p s ([], false) l).1).map (plc d p s) := by
          unfold cnt at hz
          exact List.count_pos_iff.1 (by omega)
        obtain ⟨x, hx, hq⟩ := List.mem_map.1 this
        have hlm := B6.lim x hx
        have hsb := slot_bound (d := d) (p := p) (s := s)
        have hS : 0 < slot d p s := by omega
        have h3 : x / slot d p s = 3 := congrArg Prod.fst hq
        have z1 := Int.ediv_mul_add_emod x (slot d p s)
        have z2 := Int.emod_nonneg x (show slot d p s ≠ 0 by omega)
        rw [h3] at z1
        omega
    generalize hitB (nS d p s) (rotL l) = Bh at *
    generalize (addL d p s ([], false) l).1 = X1 at *
    generalize (addL d p s ([], false) l).2 = o1 at *
    have hH6 : h.n ≤ H6.n := by have := g1.n; omega
    have hb6 := bud_lt c6 B6
    have hn6 := cellsOf_lt c6 hf6
    have hw6n := cellsOf_lt c6 hw6
    have hvb6 := Sl.below hv6 c6
    have s6 : H6.Sub h.n H6 := ⟨hH6, Nat.le_refl _, fun _ _ e => e, c6⟩
    refine awp_loop_of (α := Nat) (fun a => a ≤ 3)
      (fun a => [(2, .pointer (some ⟨h.n, 0, none⟩)), (5, .pointer (some ⟨b, 0, none⟩)), (7, .pointer (some ⟨H2.n, 0, none⟩)), (8, hv), (10, .int .i64 a)]) (fun _ => H6) (fun a => 3 - a) 0
      (Nat.zero_le _) s6 (by simp; exact ⟨.ptr hn6, .ptr hb6.1, .ptr hw6n, hvb6, .int⟩) ?_
    intro a ha
    have ea : IntKind.i64.wrap ((a : Int) + 1) = ((a + 1 : Nat) : Int) := by rw [IntWalk.i64_in _ (by omega)]; omega
    by_cases ha3 : a < 3
    · have ha' : (a : Int) < 3 := by omega
      simp [ha']
      refine awp_loop_of (α := Nat) (fun i => i ≤ 8)
        (fun i => [(2, .pointer (some ⟨h.n, 0, none⟩)), (5, .pointer (some ⟨b, 0, none⟩)), (7, .pointer (some ⟨H2.n, 0, none⟩)), (8, hv), (10, .int .i64 a), (11, .int .i64 i)]) (fun _ => H6) (fun i => 8 - i) 0
        (Nat.zero_le _) s6 (by simp; exact ⟨.ptr hn6, .ptr hb6.1, .ptr hw6n, hvb6, .int, .int⟩) ?_
      intro i hi
      have ei : IntKind.i64.wrap ((i : Int) + 1) = ((i + 1 : Nat) : Int) := by rw [IntWalk.i64_in _ (by omega)]; omega
      by_cases his : (i : Int) < s
      · simp [hf6, hw6, apart, ac, his]
        refine (bhits_ok B6 a i).mono ?_
        rintro _ h9 ⟨rfl, e⟩
        rw [e]
        clear e h9
        simp [hw6, apart, ac]
        have mk := many_ok d p s hr Bh hBl hv a i H6 hv6
        unfold gv at mk
        refine mk.mono ?_
        rintro _ h9 ⟨rfl, e⟩
        rw [e]
        clear e h9 mk
        simp [hm, ei, -Int.natCast_add]
        exact ⟨i + 1, by omega, by omega, s6, .ptr hn6, .ptr hb6.1, .ptr hw6n, hvb6, .int, rfl, .int⟩
      · simp [hf6, apart, his, ea, -Int.natCast_add]
        exact ⟨a + 1, by omega, by omega, s6, .ptr hn6, .ptr hb6.1, .ptr hw6n, hvb6, rfl, .int⟩
    · have hae : a = 3 := by omega
      subst hae
      simp
      refine (bhits_ok B6 3 0).mono ?_
      rintro _ h9 ⟨rfl, e⟩
      rw [e]
      clear e h9
      simp [h30]
end Go.Proofs.Ythhhcpbkedikfaa.budc
