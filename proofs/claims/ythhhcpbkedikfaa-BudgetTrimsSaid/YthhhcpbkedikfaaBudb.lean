/-
  Contracts.
-/
import Derived.Test.YthhhcpbkedikfaaBuda
import Derived.Test.YthhhcpbkedikfaaGeo
import Derived.Test.YthhhcpbkedikfaaShar
import Derived.Test.YthhhcpbkedikfaaHead
import Derived.Test.YthhhcpbkedikfaaSha
import Derived.Test.YthhhcpbkedikfaaNum
import Derived.Test.YthhhcpbkedikfaaAbEnter
import Derived.Test.YthhhcpbkedikfaaProg
import Derived.IntWalk
import Derived.KernelRfl
set_option linter.unusedSimpArgs false
set_option linter.unusedVariables false
namespace Go.Proofs.Ythhhcpbkedikfaa.budb
open Go Go.Ab Go.Proofs Go.RowKit Go.Proofs.Ythhhcpbkedikfaa.num Go.Proofs.Ythhhcpbkedikfaa.sha Go.Proofs.Ythhhcpbkedikfaa.head Go.Proofs.Ythhhcpbkedikfaa.shar Go.Proofs.Ythhhcpbkedikfaa.geo Go.Proofs.Ythhhcpbkedikfaa.buda
set_option maxRecDepth 100000
attribute [local simp] s_ops s_seq s_cond s_cond_t s_cond_f s_block s_exit s_ret s_skip s_then_n s_then_n' s_then_e s_then_e' s_then_r s_then_r' s_block_n s_block_r s_block_e s_post_r s_post_n s_res0 s_res1 s_res2 s_res3 s_res4 s_nil s_cons s_guard s_guard_tt s_guard_ff s_guard_tf s_guard_ft s_guard_u s_call s_kL s_put s_put0 s_set s_tmp s_const s_func s_init s_mkF s_mkF0 s_mv s_bin s_pick s_op aop oK_some oK_none bK_some bK_none b_add b_sub b_mul b_quo b_rem b_and b_or b_xor b_andNot b_shl b_shr b_eql b_neq b_lss b_leq b_gtr b_geq b_sadd b_seql b_sneq b_slss b_sleq b_sgtr b_sgeq s_draw s_drawT s_tK s_tT s_tF s_tB s_tR s_stage s_stage0 s_kW s_kR s_rc0 s_rc s_rcg rK_some rK_none rG_b rG_u s_callv s_callv_f s_nextM s_postR_r s_postR_n s_resA0 s_resAt s_resAc s_resC s_tup0 s_tup1 s_tup2 s_tup3
section
open Go.RowKit Go.ChangeShapes Go.WideShapes
variable {H : Type} {P : Program} {W : World} {enc : TypeId × Value → H}
/-- a slice whose elements have n cells, read -/
def SlG {α : Type} (ea : α → List Value) (n : Nat) (h : Heap) (v : Value) (l : List α) : Prop :=
  (∃ c, v = .slice none 0 c ∧ l = []) ∨ ∃ b o cap c m e, v = .slice (some ⟨b, o, none⟩) l.length cap ∧ h.cellsOf b = some (c, m, e) ∧ l.length ≤ cap ∧ (m.isLoose = true → e = n) ∧ ∀ i (hi : i < l.length), acut c (o + i * n) n = some (ea l[i])
theorem given_rows {α : Type} {ea : α → List Value} {μ : Mu} {h : Heap} (g : Given W μ h) {t e : TypeId} {n : Nat} {v : Value} {d : DataW H} {ps : List MemPlace} (ht : P.underlying t = some (.slice e)) (hc : P.cellsOf e = n) (hn : 0 < n)
    (hval : Value.okWide P W .any 0 t v) (hd : DataW.Trod enc P W 0 (fun _ => true) true t v d ps)
    (plain : ∀ (a : α), ∀ v ∈ ea a, (∀ μ, VRel μ v v) ∧ v.oneCell' = true)
    (elem : ∀ fuel x cs, DataW.trod enc P W 0 (fun _ => true) true fuel e cs = some x → ∃ a : α, cs = ea a ∧ (ea a).length = n) :
    ∃ μ' h' va l, Given W μ' h' ∧ μ.Le μ' ∧ h.Le h' ∧ VRel μ' va v ∧ SlG ea n h' va l ∧ l.length ≤ maxLen ∧ ∀ a ∈ l, ∃ fuel D Pl, DataW.trod enc P W 0 (fun _ => true) true fuel e (ea a) = some (D, Pl) ∧ ∃ el sp, d = .slice el sp ∧ D ∈ el := by
  obtain ⟨a0, len0, cap0, rfl⟩ := okWide_slice ht hval
  obtain ⟨fuel, hf⟩ := hd
  rcases Go.Deep.open_slice ht hf with ⟨hcs, _⟩ | ⟨a, len, cap, m, nf, D, Pl, hcs, _, hle, hmx, hm, hxx, hget⟩
  · simp only [Value.cells, List.cons.injEq, Value.slice.injEq, and_true] at hcs
    obtain ⟨rfl, rfl, rfl⟩ := hcs
    exact ⟨μ, h, _, [], g, .refl _, .refl _, .snil, .inl ⟨0, rfl, rfl⟩, Nat.zero_le _, fun a ha => by cases ha⟩
  · simp only [Value.cells, List.cons.injEq, Value.slice.injEq, and_true] at hcs
    obtain ⟨rfl, rfl, rfl⟩ := hcs
    simp only [if_true] at hm
    subst hm
    have hw : W.has P .any 0 a e m := by
      unfold Value.okWide at hval
      rw [ht] at hval
      simp only [Cell.okWide, ht, Cell.ok] at hval
      exact hval.2.2
    obtain ⟨_, hsp, row, cells, hsh, _⟩ := hw
    obtain ⟨cc, ty, fz, hblk⟩ : ∃ cc ty fz, W.heap[a.block]? = some (.cells cc ty fz) := by
      unfold World.shape? at hsh
      split at hsh
      · exact ⟨_, _, _, by assumption⟩
      · cases hsh
    obtain ⟨ab, ao, asp⟩ := a
    dsimp only at hsp hblk
    subst hsp
    have hE : ∀ i, i < len0 → ∃ a : α, (ea a).length = n ∧ (∀ j (hj : j < (ea a).length), cc[ao + i * n + j]? = some (ea a)[j]) ∧ DataW.trod enc P W 0 (fun _ => true) true nf e (ea a) = some (D i, Pl i) := fun i hi => by
      obtain ⟨cs', h1, h2⟩ := hget i (by omega)
      obtain ⟨a, rfl, hl⟩ := elem _ _ _ h2
      obtain ⟨_, hlen, hcell⟩ := World.cells?_some h1
      refine ⟨a, hl, fun j hj => ?_, h2⟩
      have := hcell j (by rw [hc]; omega)
      rw [show ((⟨ab, ao, none⟩ : Addr).add (i * P.cellsOf e)).add j = ⟨ab, ao + i * P.cellsOf e + j, none⟩ by rw [Addr.add_lit, Addr.add_lit]] at this
      simpa [World.cell?, hblk, hc, hj] using this
    obtain ⟨L, hLl, hL⟩ : ∃ L : List α, L.length = len0 ∧ ∀ i (hi : i < L.length), (ea L[i]).length = n ∧ (∀ j (hj : j < (ea L[i]).length), cc[ao + i * n + j]? = some (ea L[i])[j]) ∧ DataW.trod enc P W 0 (fun _ => true) true nf e (ea L[i]) = some (D i, Pl i) := by
      clear hget hf hval hle hxx
      induction len0 with
      | zero => exact ⟨[], rfl, fun i hi => by simp at hi⟩
      | succ q ih =>
        obtain ⟨L, hl, hh⟩ := ih fun i hi => hE i (by omega)
        obtain ⟨is, ha⟩ := hE q (by omega)
        refine ⟨L ++ [is], by simp [hl], fun i hi => ?_⟩
        by_cases hik : i < L.length
        · simp only [List.getElem_append_left hik]; exact hh i hik
        · have : i = q := by simp at hi; omega
          subst this
          have e1 : (L ++ [is])[i] = is := by rw [List.getElem_append_right (by omega)]; simp [hl]
          rw [e1]
          exact ha
    subst hLl
    have hmem : ∀ a ∈ L, ∃ fuel D' Pl, DataW.trod enc P W 0 (fun _ => true) true fuel e (ea a) = some (D', Pl) ∧ ∃ el sp, d = .slice el sp ∧ D' ∈ el := fun a ha => by
      obtain ⟨i, hi, rfl⟩ := List.mem_iff_getElem.1 ha
      exact ⟨nf, D i, Pl i, (hL i hi).2.2, _, _, (Prod.mk.inj hxx).1, List.mem_map.2 ⟨i, List.mem_range.2 hi, rfl⟩⟩
    have hall : ∀ x ∈ L.map ea, x.length = n := fun x hx => by
      obtain ⟨a, ha, rfl⟩ := List.mem_map.1 hx
      obtain ⟨i, hi, rfl⟩ := List.mem_iff_getElem.1 ha
      exact (hL i hi).1
    have hmx' : L.length ≤ maxLen := by omega
    have hfl := flat_len hall
    rw [List.length_map] at hfl
    have hfg : ∀ i (hi : i < L.length), ((L.map ea).flatten.drop (i * n)).take n = ea L[i] := fun i hi => by
      have := flat_get hall i (by rw [List.length_map]; exact hi)
      rw [this, List.getElem_map]
    have hcell : ∀ j (hj : j < (L.map ea).flatten.length), cc[ao + j]? = some (L.map ea).flatten[j] := fun j hj => by
      have hq : j / n < L.length := by rw [hfl] at hj; exact Nat.div_lt_of_lt_mul (by rw [Nat.mul_comm]; exact hj)
      have hr := Nat.mod_lt j hn
      have hdm := Nat.div_add_mod j n
      have := (hL (j / n) hq).2.1 (j % n) (by rw [(hL (j / n) hq).1]; exact hr)
      rw [show ao + j / n * n + j % n = ao + j by rw [Nat.mul_comm]; omega] at this
      rw [this]
      congr 1
      have hg := hfg (j / n) hq
      have e2 : (ea L[j / n])[j % n]'(by rw [(hL (j / n) hq).1]; exact hr) = (((L.map ea).flatten.drop (j / n * n)).take n)[j % n]'(by rw [hg, (hL (j / n) hq).1]; exact hr) := by
        congr 1
        exact hg.symm
      rw [e2, List.getElem_take, List.getElem_drop]
      congr 1
      rw [Nat.mul_comm]; omega
    by_cases hp : 0 < L.length
    · have hp2 : 0 < (L.map ea).flatten.length := by rw [hfl]; exact Nat.mul_pos hp hn
      have hsz : ao + (L.map ea).flatten.length ≤ cc.size := by
        have := hcell ((L.map ea).flatten.length - 1) (by omega)
        have := (Array.getElem?_eq_some_iff.1 this).1
        omega
      have hr : ∀ i, i < (L.map ea).flatten.length → (∀ μ, VRel μ ((L.map ea).flatten.getD i unk) (cc.getD (ao + i) unk)) ∧ (cc.getD (ao + i) unk).oneCell' = true := fun i hi => by
        have e0 := hcell i hi
        have e1 : cc.getD (ao + i) unk = (L.map ea).flatten[i] := by simp only [Array.getD_eq_getD_getElem?, e0, Option.getD_some]
        have e2 : (L.map ea).flatten.getD i unk = (L.map ea).flatten[i] := by rw [List.getD, List.getElem?_eq_getElem hi]; rfl
        rw [e1, e2]
        obtain ⟨x, hx, hxm⟩ := List.mem_flatten.1 (List.getElem_mem hi)
        obtain ⟨a, _, rfl⟩ := List.mem_map.1 hx
        exact plain a _ hxm
      have gv := g.rel.given g.ro (cb := ab) (dl := ao) (c := (L.map ea).flatten) n hblk hsz hr
      have le := g.le_push ⟨ab, ao, (L.map ea).flatten.length, cc.size, n, false⟩ (.cells (L.map ea).flatten .ro n)
      refine ⟨_, _, .slice (some ⟨h.n, 0, none⟩) L.length m, L, ⟨gv.1, gv.2⟩, le.1, le.2, ?_, .inr ⟨h.n, 0, m, (L.map ea).flatten, .ro, n, rfl, by simp [Heap.cellsOf, push_m], by omega, fun _ => rfl, fun i hi => ?_⟩, hmx', hmem⟩
      · exact VRel.slice (mi := ⟨ab, ao, (L.map ea).flatten.length, cc.size, n, false⟩) (Mu.ext_same _ _ _) (.inl rfl)
      · unfold acut
        have hin : i * n + n ≤ L.length * n := by
          have : (i + 1) * n ≤ L.length * n := Nat.mul_le_mul_right n hi
          rw [Nat.add_mul] at this; omega
        rw [if_pos (by rw [hfl]; omega), Nat.zero_add, hfg i hi]
    · have hl0 : L = [] := List.eq_nil_of_length_eq_zero (by omega)
      subst hl0
      have gv := g.rel.given g.ro (cb := ab) (dl := 0) (c := []) n hblk (by simp) (fun i hi => by simp at hi)
      have le := g.le_push ⟨ab, 0, 0, cc.size, n, false⟩ (.cells [] .ro n)
      refine ⟨_, _, .slice (some ⟨h.n, ao, none⟩) 0 m, [], ⟨gv.1, gv.2⟩, le.1, le.2, ?_, .inr ⟨h.n, ao, m, [], .ro, n, rfl, by simp [Heap.cellsOf, push_m], by simp, fun _ => rfl, fun i hi => by simp at hi⟩, hmx', hmem⟩
      have := VRel.slice (o := ao) (l := 0) (c := m) (c' := m) (mi := ⟨ab, 0, 0, cc.size, n, false⟩) (Mu.ext_same μ h.n _) (.inl rfl)
      simpa using this
end
section
open Go.RowKit Go.ChangeShapes Go.WideShapes
variable {H : Type} {W : World} {enc : TypeId × Value → H}
theorem ev_elem {fuel : Nat} {x : DataW H × List MemPlace} {cs : List Value} (h : DataW.trod enc Try.prog W 0 (fun _ => true) true fuel 74 cs = some x) : ∃ e : Ev, cs = ec e ∧ (ec e).length = 5 := by
  obtain ⟨xs, m, _, _, hl0, hl, hx⟩ := DataW.trod_struct Try.underlying74 h
  have h5 : Try.prog.cellsOf 74 = 5 := by kernel_rfl
  have c3 : Try.prog.cellsOf 3 = 1 := by kernel_rfl
  have c5 : Try.prog.cellsOf 5 = 1 := by kernel_rfl
  have c9 : Try.prog.cellsOf 9 = 1 := by kernel_rfl
  have c72 : Try.prog.cellsOf 72 = 2 := by kernel_rfl
  rw [h5] at hl0
  have hl4 : xs.length = 4 := hl
  match cs, hl0 with
  | [a0, a1, a2, a3, a4], _ =>
    match xs, hl4 with
    | [x0, x1, x2, x3], _ =>
      have f0 : DataW.trod enc Try.prog W 0 (fun _ => true) true m 3 [a0] = some x0 := by
        have q : DataW.trod enc Try.prog W 0 (fun _ => true) true m 3 (([a0, a1, a2, a3, a4].drop 0).take (Try.prog.cellsOf 3)) = some x0 := hx 0 _ rfl
        rw [c3] at q
        exact q
      have f1 : DataW.trod enc Try.prog W 0 (fun _ => true) true m 3 [a1] = some x1 := by
        have q : DataW.trod enc Try.prog W 0 (fun _ => true) true m 3 (([a0, a1, a2, a3, a4].drop 1).take (Try.prog.cellsOf 3)) = some x1 := hx 1 _ rfl
        rw [c3] at q
        exact q
      have f2 : DataW.trod enc Try.prog W 0 (fun _ => true) true m 9 [a2] = some x2 := by
        have q : DataW.trod enc Try.prog W 0 (fun _ => true) true m 9 (([a0, a1, a2, a3, a4].drop 2).take (Try.prog.cellsOf 9)) = some x2 := hx 2 _ rfl
        rw [c9] at q
        exact q
      have f3 : DataW.trod enc Try.prog W 0 (fun _ => true) true m 72 [a3, a4] = some x3 := by
        have q : DataW.trod enc Try.prog W 0 (fun _ => true) true m 72 (([a0, a1, a2, a3, a4].drop 3).take (Try.prog.cellsOf 72)) = some x3 := hx 3 _ rfl
        rw [c72] at q
        exact q
      obtain ⟨n0, e0, _, _⟩ := DataW.trod_int Try.underlying3 (x := x0) f0
      obtain ⟨n1, e1, _, _⟩ := DataW.trod_int Try.underlying3 (x := x1) f1
      obtain ⟨s2, e2, _, _⟩ := DataW.trod_string Try.underlying9 (x := x2) f2
      obtain ⟨ys, m', _, _, hl0', hl', hy⟩ := DataW.trod_struct (x := x3) Try.underlying72 f3
      have hl2 : ys.length = 2 := hl'
      match ys, hl2 with
      | [y0, y1], _ =>
        have k0 : DataW.trod enc Try.prog W 0 (fun _ => true) true m' 3 [a3] = some y0 := by
          have q : DataW.trod enc Try.prog W 0 (fun _ => true) true m' 3 (([a3, a4].drop 0).take (Try.prog.cellsOf 3)) = some y0 := hy 0 _ rfl
          rw [c3] at q
          exact q
        have k1 : DataW.trod enc Try.prog W 0 (fun _ => true) true m' 5 [a4] = some y1 := by
          have q : DataW.trod enc Try.prog W 0 (fun _ => true) true m' 5 (([a3, a4].drop 1).take (Try.prog.cellsOf 5)) = some y1 := hy 1 _ rfl
          rw [c5] at q
          exact q
        obtain ⟨n3, e3, _, _⟩ := DataW.trod_int Try.underlying3 (x := y0) k0
        obtain ⟨n4, e4, _, _⟩ := DataW.trod_int Try.underlying5 (x := y1) k1
        simp at e0 e1 e2 e3 e4
        refine ⟨⟨n0, n1, s2.data.toList, n3, n4⟩, ?_, rfl⟩
        rw [e0, e1, e2, e3, e4, bs_of s2]
        simp [ec, bs_data]
theorem ec_plain (e : Ev) : ∀ v ∈ ec e, (∀ μ, VRel μ v v) ∧ v.oneCell' = true := fun v hv => by
  simp [ec] at hv
  rcases hv with rfl | rfl | rfl | rfl | rfl
  · exact ⟨fun _ => .int, rfl⟩
  · exact ⟨fun _ => .int, rfl⟩
  · exact ⟨fun _ => .string, rfl⟩
  · exact ⟨fun _ => .int, rfl⟩
  · exact ⟨fun _ => .int, rfl⟩
theorem slG_ec {h : Heap} {v : Value} {l : List Ev} (s : SlG ec 5 h v l) : Sl5 h v l := by
  rcases s with q | ⟨b, o, cap, c, m, e, h1, h2, h3, _, h4⟩
  · exact .inl q
  · exact .inr ⟨b, o, cap, c, m, e, h1, h2, h3, h4⟩
theorem SlG.keep {α : Type} {ea : α → List Value} {n : Nat} {h h' : Heap} {v : Value} {l : List α} (s : SlG ea n h v l) (hk : ∀ b o, h.m b = some o → h'.m b = some o) : SlG ea n h' v l := by
  rcases s with q | ⟨b, o, cap, c, m, e, h1, h2, h3⟩
  · exact .inl q
  · exact .inr ⟨b, o, cap, c, m, e, h1, cellsOf_keep hk h2, h3⟩
end
theorem sub_len {α : Type} [DecidableEq α] : ∀ {X T : List α}, X.Nodup → (∀ x ∈ X, x ∈ T) → X.length ≤ T.length
  | [], _, _, _ => by simp
  | x :: r, T, hn, hs => by
    have hx := hs x List.mem_cons_self
    have ih := sub_len (X := r) (T := T.erase x) (List.nodup_cons.1 hn).2 (fun y hy => by
      have hne : y ≠ x := fun e => (List.nodup_cons.1 hn).1 (e ▸ hy)
      exact (List.mem_erase_of_ne hne).2 (hs y (List.mem_cons_of_mem _ hy)))
    have h1 := List.length_erase_of_mem hx
    have h2 := List.length_pos_of_mem hx
    rw [List.length_cons]
    omega
theorem cnt_filter (d p s : Int) (X : List Int) (q : Int × Int) : cnt d p s X q = (X.filter fun x => plc d p s x == q).length := by
  unfold cnt
  induction X with
  | nil => rfl
  | cons x r ih =>
    rw [List.map_cons, List.count_cons, ih, List.filter_cons]
    by_cases h : plc d p s x == q
    · simp [h]
    · simp [h]
theorem cnt_sub {d p s : Int} {X Y : List Int} (hX : X.Nodup) (hs : ∀ x ∈ X, x ∈ Y) (q : Int × Int) : cnt d p s X q ≤ cnt d p s Y q := by
  rw [cnt_filter, cnt_filter]
  refine sub_len (hX.filter _) fun x hx => ?_
  rw [List.mem_filter] at hx ⊢
  exact ⟨hs x hx.1, hx.2⟩
theorem cnt_same {d p s : Int} {X Y : List Int} (hX : X.Nodup) (hY : Y.Nodup) (hs : ∀ x, x ∈ X ↔ x ∈ Y) (q : Int × Int) : cnt d p s X q = cnt d p s Y q :=
  Nat.le_antisymm (cnt_sub hX (fun x h => (hs x).1 h) q) (cnt_sub hY (fun x h => (hs x).2 h) q)
/-- in a slot? -/
def inS (d p s x : Int) : Prop := 0 ≤ x ∧ x ≤ 3 * slot d p s - 1
theorem cnt_wide {d p s : Int} (hr : right d p s = true) {X : List Int} (hX : X.Nodup) (hl : ∀ x ∈ X, inS d p s x) (q : Int × Int) : (cnt d p s X q : Int) ≤ d + p := by
  have hp := right_prop.1 hr
  have hsl : slot d p s = (d + p) * s := (slot_right hr).1
  rw [cnt_filter]
  have key : (X.filter fun x => plc d p s x == q).length ≤ ((List.range (d + p).toNat).map fun (i : Nat) => q.1 * slot d p s + (i : Int) * s + q.2).length := by
    refine sub_len (hX.filter _) fun x hx => ?_
    rw [List.mem_filter] at hx
    obtain ⟨h1, h2⟩ := hx
    have h2 : plc d p s x = q := by simpa using h2
    obtain ⟨h0, h3⟩ := hl x h1
    rw [List.mem_map]
    have hS : 0 < slot d p s := by
      rw [hsl]
      exact Int.mul_pos (by omega) (by omega)
    have m1 := Int.emod_nonneg x (show slot d p s ≠ 0 by omega)
    have m2 := Int.emod_lt_of_pos x hS
    have d1 : 0 ≤ x % slot d p s / s := Int.ediv_nonneg m1 (by omega)
    have d2 : x % slot d p s / s < d + p := by
      rw [hsl] at m2 ⊢
      exact Int.ediv_lt_of_lt_mul (by omega) m2
    refine ⟨(x % slot d p s / s).toNat, List.mem_range.2 (by omega), ?_⟩
    rw [← h2]
    show x / slot d p s * slot d p s + ((x % slot d p s / s).toNat : Int) * s + x % slot d p s % s = x
    have e1 : ((x % slot d p s / s).toNat : Int) = x % slot d p s / s := by omega
    have e2 := Int.ediv_mul_add_emod x (slot d p s)
    have e3 := Int.ediv_mul_add_emod (x % slot d p s) s
    rw [e1]
    omega
  rw [List.length_map, List.length_range] at key
  omega
/-- an event hits a sector -/
def hitE (d p s : Int) (e : Ev) (x : Int) : Prop := vld d p s e ∧ ∃ i, i < e.S.length ∧ e.S.getD i 0 ≠ 0 ∧ (e.a + i) / 64 = x
theorem addS_mem {d p s : Int} {st : List Int × Bool} {n x : Int} : x ∈ (addS d p s st n).1 ↔ x ∈ st.1 ∨ (x = n ∧ inS d p s n) := by
  unfold addS inS
  split
  · rename_i h
    split
    · rename_i h2
      exact ⟨.inl, fun q => by rcases q with q | ⟨rfl, _⟩ <;> assumption⟩
    · simp only [List.mem_append, List.mem_singleton]
      exact ⟨fun q => q.imp id fun q => ⟨q, h⟩, fun q => q.imp id fun q => q.1⟩
  · rename_i h
    exact ⟨.inl, fun q => by
      rcases q with q | ⟨_, q⟩
      · exact q
      · exact absurd q h⟩
theorem addS_oth {d p s : Int} {st : List Int × Bool} {n : Int} : (addS d p s st n).2 = true ↔ st.2 = true ∨ ¬ inS d p s n := by
  unfold addS inS
  split
  · rename_i h
    split
    · exact ⟨.inl, fun q => by rcases q with q | q; exact q; exact absurd h q⟩
    · exact ⟨.inl, fun q => by rcases q with q | q; exact q; exact absurd h q⟩
  · rename_i h
    exact ⟨fun _ => .inr h, fun _ => rfl⟩
theorem addS_nd {d p s : Int} {st : List Int × Bool} {n : Int} (h : st.1.Nodup) : (addS d p s st n).1.Nodup := by
  unfold addS
  split
  · split
    · exact h
    · rename_i h2
      exact List.nodup_append.2 ⟨h, by simp, fun x hx y hy => by simp at hy; rw [hy]; exact fun e => h2 (e ▸ hx)⟩
  · exact h
theorem addN_mem {d p s : Int} {st : List Int × Bool} {a : Int} {S : List UInt8} {x : Int} : ∀ {i : Nat}, x ∈ (addN d p s st a S i).1 ↔ x ∈ st.1 ∨ ((∃ j, j < i ∧ S.getD j 0 ≠ 0 ∧ (a + j) / 64 = x) ∧ inS d p s x)
  | 0 => ⟨.inl, fun q => by
    rcases q with q | ⟨⟨j, h, _⟩, _⟩
    · exact q
    · cases h⟩
  | i + 1 => by
    have ih := addN_mem (d := d) (p := p) (s := s) (st := st) (a := a) (S := S) (x := x) (i := i)
    show x ∈ (if S.getD i 0 ≠ 0 then addS d p s (addN d p s st a S i) ((a + i) / 64) else addN d p s st a S i).1 ↔ _
    by_cases h : S.getD i 0 ≠ 0
    · rw [if_pos h, addS_mem, ih]
      constructor
      · rintro ((q | ⟨⟨j, h1, h2, h3⟩, h4⟩) | ⟨rfl, q⟩)
        · exact .inl q
        · exact .inr ⟨⟨j, by omega, h2, h3⟩, h4⟩
        · exact .inr ⟨⟨i, by omega, h, rfl⟩, q⟩
      · rintro (q | ⟨⟨j, h1, h2, h3⟩, h4⟩)
        · exact .inl (.inl q)
        · by_cases e : j = i
          · subst e
            exact .inr ⟨h3.symm, h3 ▸ h4⟩
          · exact .inl (.inr ⟨⟨j, by omega, h2, h3⟩, h4⟩)
    · rw [if_neg h, ih]
      constructor
      · rintro (q | ⟨⟨j, h1, h2, h3⟩, h4⟩)
        · exact .inl q
        · exact .inr ⟨⟨j, by omega, h2, h3⟩, h4⟩
      · rintro (q | ⟨⟨j, h1, h2, h3⟩, h4⟩)
        · exact .inl q
        · by_cases e : j = i
          · subst e
            exact absurd h2 h
          · exact .inr ⟨⟨j, by omega, h2, h3⟩, h4⟩
theorem addN_oth {d p s : Int} {st : List Int × Bool} {a : Int} {S : List UInt8} : ∀ {i : Nat}, (addN d p s st a S i).2 = true ↔ st.2 = true ∨ ∃ j, j < i ∧ S.getD j 0 ≠ 0 ∧ ¬ inS d p s ((a + j) / 64)
  | 0 => ⟨.inl, fun q => by
    rcases q with q | ⟨j, h, _⟩
    · exact q
    · cases h⟩
  | i + 1 => by
    have ih := addN_oth (d := d) (p := p) (s := s) (st := st) (a := a) (S := S) (i := i)
    show (if S.getD i 0 ≠ 0 then addS d p s (addN d p s st a S i) ((a + i) / 64) else addN d p s st a S i).2 = true ↔ _
    by_cases h : S.getD i 0 ≠ 0
    · rw [if_pos h, addS_oth, ih]
      constructor
      · rintro ((q | ⟨j, h1, h2, h3⟩) | q)
        · exact .inl q
        · exact .inr ⟨j, by omega, h2, h3⟩
        · exact .inr ⟨i, by omega, h, q⟩
      · rintro (q | ⟨j, h1, h2, h3⟩)
        · exact .inl (.inl q)
        · by_cases e : j = i
          · subst e
            exact .inr h3
          · exact .inl (.inr ⟨j, by omega, h2, h3⟩)
    · rw [if_neg h, ih]
      constructor
      · rintro (q | ⟨j, h1, h2, h3⟩)
        · exact .inl q
        · exact .inr ⟨j, by omega, h2, h3⟩
      · rintro (q | ⟨j, h1, h2, h3⟩)
        · exact .inl q
        · by_cases e : j = i
          · subst e
            exact absurd h2 h
          · exact .inr ⟨j, by omega, h2, h3⟩
theorem addN_nd {d p s : Int} {st : List Int × Bool} {a : Int} {S : List UInt8} (h : st.1.Nodup) : ∀ {i : Nat}, (addN d p s st a S i).1.Nodup
  | 0 => h
  | i + 1 => by
    have ih := addN_nd (d := d) (p := p) (s := s) (a := a) (S := S) h (i := i)
    show (if S.getD i 0 ≠ 0 then addS d p s (addN d p s st a S i) ((a + i) / 64) else addN d p s st a S i).1.Nodup
    split
    · exact addS_nd ih
    · exact ih
theorem addL_mem {d p s : Int} {x : Int} : ∀ {l : List Ev} {st : List Int × Bool}, x ∈ (addL d p s st l).1 ↔ x ∈ st.1 ∨ ((∃ e, e ∈ l ∧ hitE d p s e x) ∧ inS d p s x)
  | [], st => ⟨.inl, fun q => by
    rcases q with q | ⟨⟨e, h, _⟩, _⟩
    · exact q
    · cases h⟩
  | e :: r, st => by
    have ih := addL_mem (d := d) (p := p) (s := s) (x := x) (l := r) (st := addE d p s st e)
    have h1 : addL d p s st (e :: r) = addL d p s (addE d p s st e) r := rfl
    have h2 : x ∈ (addE d p s st e).1 ↔ x ∈ st.1 ∨ (hitE d p s e x ∧ inS d p s x) := by
      unfold addE hitE
      split
      · rename_i hv
        rw [addN_mem]
        simp only [hv, true_and]
      · rename_i hv
        simp only [hv, false_and, or_false]
    rw [h1, ih, h2]
    constructor
    · rintro ((q | ⟨q1, q2⟩) | ⟨⟨f, h3, h4⟩, h5⟩)
      · exact .inl q
      · exact .inr ⟨⟨e, List.mem_cons_self, q1⟩, q2⟩
      · exact .inr ⟨⟨f, List.mem_cons_of_mem _ h3, h4⟩, h5⟩
    · rintro (q | ⟨⟨f, h3, h4⟩, h5⟩)
      · exact .inl (.inl q)
      · rcases List.mem_cons.1 h3 with rfl | h3
        · exact .inl (.inr ⟨h4, h5⟩)
        · exact .inr ⟨⟨f, h3, h4⟩, h5⟩
theorem addL_oth {d p s : Int} : ∀ {l : List Ev} {st : List Int × Bool}, (addL d p s st l).2 = true ↔ st.2 = true ∨ ∃ e x, e ∈ l ∧ hitE d p s e x ∧ ¬ inS d p s x
  | [], st => ⟨.inl, fun q => by
    rcases q with q | ⟨e, x, h, _⟩
    · exact q
    · cases h⟩
  | e :: r, st => by
    have ih := addL_oth (d := d) (p := p) (s := s) (l := r) (st := addE d p s st e)
    have h1 : addL d p s st (e :: r) = addL d p s (addE d p s st e) r := rfl
    have h2 : (addE d p s st e).2 = true ↔ st.2 = true ∨ ∃ x, hitE d p s e x ∧ ¬ inS d p s x := by
      unfold addE hitE
      split
      · rename_i hv
        rw [addN_oth]
        constructor
        · rintro (q | ⟨j, h1, h2, h3⟩)
          · exact .inl q
          · exact .inr ⟨_, ⟨hv, j, h1, h2, rfl⟩, h3⟩
        · rintro (q | ⟨x, ⟨_, j, h1, h2, rfl⟩, h3⟩)
          · exact .inl q
          · exact .inr ⟨j, h1, h2, h3⟩
      · rename_i hv
        simp only [hv, false_and, exists_false, or_false]
    rw [h1, ih, h2]
    constructor
    · rintro ((q | ⟨x, q1, q2⟩) | ⟨f, x, h3, h4, h5⟩)
      · exact .inl q
      · exact .inr ⟨e, x, List.mem_cons_self, q1, q2⟩
      · exact .inr ⟨f, x, List.mem_cons_of_mem _ h3, h4, h5⟩
    · rintro (q | ⟨f, x, h3, h4, h5⟩)
      · exact .inl (.inl q)
      · rcases List.mem_cons.1 h3 with rfl | h3
        · exact .inl (.inr ⟨x, h4, h5⟩)
        · exact .inr ⟨f, x, h3, h4, h5⟩
theorem addL_nd {d p s : Int} : ∀ {l : List Ev} {st : List Int × Bool}, st.1.Nodup → (addL d p s st l).1.Nodup
  | [], _, h => h
  | e :: r, st, h => addL_nd (l := r) (st := addE d p s st e) (by
    unfold addE
    split
    · exact addN_nd h
    · exact h)
/-- all one in which order -/
theorem addL_same {d p s : Int} {l m : List Ev} (h : ∀ e, e ∈ l ↔ e ∈ m) (q : Int × Int) : cnt d p s (addL d p s ([], false) l).1 q = cnt d p s (addL d p s ([], false) m).1 q ∧ (addL d p s ([], false) l).2 = (addL d p s ([], false) m).2 := by
  refine ⟨cnt_same (addL_nd List.nodup_nil) (addL_nd List.nodup_nil) (fun x => ?_) q, ?_⟩
  · rw [addL_mem, addL_mem]
    simp only [h]
  · rw [Bool.eq_iff_iff, addL_oth, addL_oth]
    simp only [h]
theorem bud_lt {h : Heap} (hc : h.Closed) {b mh mm : Nat} {d p s : Int} {X : List Int} {o : Bool} (B : Bud h b mh mm d p s X o) : b < h.n ∧ mh < h.n ∧ mm < h.n := by
  obtain ⟨K, _, _, h3⟩ := B.many
  exact ⟨cellsOf_lt hc B.c, (hc _ _ B.hit).1, (hc _ _ h3).1⟩
theorem old3 {h Z H : Heap} {b mh mm : Nat} (hcl : h.Closed) (k : ∀ y ob, h.m y = some ob → Z.m y = some ob) (hb : h.n ≤ b) (hh : h.n ≤ mh) (hm : h.n ≤ mm) (f : BFr Z b mh mm H) : ∀ y ob, h.m y = some ob → H.m y = some ob := fun y ob e => by
  have := (hcl y ob e).1
  exact f.m y ob (k y ob e) (by omega) (by omega) (by omega)
theorem oK_of {M : Option (Value × Heap)} {K : Value → Heap → Prop} {w : Value} {Z : Heap} (h : M = some (w, Z)) (k : K w Z) : oK M K := by
  rw [h]
  simpa using k
/-- what is behind the first n, and the first n -/
def wDrop (a : Option Addr) (len c n : Nat) : Value := .slice (a.map fun a => ⟨a.block, a.off + n * 5, none⟩) (len - n) (c - n)
def wTake (a : Option Addr) (c n : Nat) : Value := .slice (a.map fun a => ⟨a.block, a.off, none⟩) n c
theorem wDrop_sl {h : Heap} {a : Option Addr} {c n : Nat} {l : List Ev} (s : SlG ec 5 h (.slice a l.length c) l) (hn : n ≤ l.length) : Sl5 h (wDrop a l.length c n) (l.drop n) := by
  rcases s with ⟨c', e, rfl⟩ | ⟨b, o, cap, cs, m, e, h1, h2, h3, _, h4⟩
  · simp only [Value.slice.injEq] at e
    obtain ⟨rfl, _, rfl⟩ := e
    exact .inl ⟨c - n, by simp [wDrop], by simp⟩
  · simp only [Value.slice.injEq] at h1
    obtain ⟨rfl, _, rfl⟩ := h1
    refine .inr ⟨b, o + n * 5, c - n, cs, m, e, by simp [wDrop], h2, by rw [List.length_drop]; omega, fun i hi => ?_⟩
    rw [List.length_drop] at hi
    have := h4 (n + i) (by omega)
    rw [List.getElem_drop, ← this]
    congr 1
    rw [Nat.add_mul]
    omega
theorem wTake_sl {h : Heap} {a : Option Addr} {c n : Nat} {l : List Ev} (s : SlG ec 5 h (.slice a l.length c) l) (hn : n ≤ l.length) : Sl5 h (wTake a c n) (l.take n) := by
  rcases s with ⟨c', e, rfl⟩ | ⟨b, o, cap, cs, m, e, h1, h2, h3, _, h4⟩
  · simp only [Value.slice.injEq] at e
    obtain ⟨rfl, _, rfl⟩ := e
    have : n = 0 := by simpa using hn
    subst this
    exact .inl ⟨c, by simp [wTake], by simp⟩
  · simp only [Value.slice.injEq] at h1
    obtain ⟨rfl, _, rfl⟩ := h1
    refine .inr ⟨b, o, c, cs, m, e, by simp [wTake, List.length_take, Nat.min_eq_left hn], h2, by rw [List.length_take]; omega, fun i hi => ?_⟩
    rw [List.length_take] at hi
    rw [List.getElem_take]
    exact h4 i (by omega)
theorem slG_cap {h : Heap} {a : Option Addr} {c : Nat} {l : List Ev} (s : SlG ec 5 h (.slice a l.length c) l) : l.length ≤ c := by
  rcases s with ⟨c', e, rfl⟩ | ⟨b, o, cap, cs, m, e, h1, h2, h3, _, _⟩
  · simp
  · simp only [Value.slice.injEq] at h1
    obtain ⟨_, _, rfl⟩ := h1
    exact h3
theorem ab_drop {len c n : Nat} (h1 : n ≤ len) (h2 : len ≤ c) : abounds len c (some (.int .i64 (n : Int))) none none = some (n, len, c) := by
  unfold abounds
  have e1 : abound (.int .i64 (n : Int)) len = some n := by unfold abound; simp only; rw [if_pos ⟨by omega, by omega⟩]; rfl
  simp [h2, e1]
theorem ab_take {len c n : Nat} (h1 : n ≤ c) : abounds len c none (some (.int .i64 (n : Int))) none = some (0, n, c) := by
  unfold abounds
  have e1 : abound (.int .i64 (n : Int)) c = some n := by unfold abound; simp only; rw [if_pos ⟨by omega, by omega⟩]; rfl
  simp [e1]
set_option maxHeartbeats 2000000 in
theorem bsplits_law (d p s : Int) (l : List Ev) (cut : Int) (hcut : 0 ≤ cut ∧ cut < 256) (v : Value) (h : Heap) (hl : SlG ec 5 h v l) (hln : l.length ≤ 9223372036854775807) : ACalls Try.prog 10 [gv d p s, v, .int .u8 cut] h fun v _ => v = .bool true := by
  refine acalls_of mix Try.func10 k10 n10 (by simp) fun hcl hb => ?_
  have bl := (slG_ec hl).below hcl
  obtain ⟨ad, c, rfl⟩ := (slG_ec hl).form
  have hf := cellsOf_new h [.int .i64 d, .int .i64 p, .int .i64 s] .ex 1
  have g1 : Gr h (h.push (.cells [.int .i64 d, .int .i64 p, .int .i64 s] .ex 1)) := (Gr.refl hcl).push gv_bel
  have ac : acut [.int .i64 d, .int .i64 p, .int .i64 s] 0 3 = some [.int .i64 d, .int .i64 p, .int .i64 s] := rfl
  simp only [c10, s_seq, s_ops]
  simp [gv, mcells]
  have hl1 := hl.keep g1.m
  have hn1 : (h.push (.cells [.int .i64 d, .int .i64 p, .int .i64 s] .ex 1)).n = h.n + 1 := rfl
  generalize h.push (.cells [.int .i64 d, .int .i64 p, .int .i64 s] .ex 1) = H at *
  refine (bawake_ok _).mono ?_
  rintro _ h9 ⟨rfl, e⟩
  rw [e]
  clear e h9
  simp [aun]
  refine (great_ok l _ _ (slG_ec hl1) hln).mono ?_
  rintro _ h9 ⟨rfl, e⟩
  rw [e]
  clear e h9
  simp
  cases hgr : greatV l with
  | true => simp [hgr]
  | false =>
  have h60 : l.length ≤ 60 := by
    unfold greatV at hgr
    rw [Bool.or_eq_false_iff] at hgr
    simpa using hgr.1
  simp [hgr, hf, apart, ac]
  have rr := refRight_ok d p s H
  unfold gv at rr
  refine rr.mono ?_
  rintro _ h9 ⟨rfl, e⟩
  rw [e]
  clear e h9 rr
  cases hr : right d p s with
  | false => simp [aun]
  | true =>
  simp [aun, hf, apart, ac]
  have bn := bnew_ok d p s H
  unfold gv at bn
  refine bn.mono ?_
  rintro _ H2 ⟨q, g2⟩
  rw [hr, if_pos rfl] at q
  obtain ⟨b, mh, mm, rfl, B, q1, q2, q3⟩ := q
  have hf2 := cellsOf_keep g2.m hf
  simp [hf2, apart, ac]
  have bn2 := bnew_ok d p s H2
  unfold gv at bn2
  refine bn2.mono ?_
  rintro _ H3 ⟨q, g3⟩
  rw [hr, if_pos rfl] at q
  obtain ⟨b', mh', mm', rfl, B', q1', q2', q3'⟩ := q
  have hp := right_prop.1 hr
  have hbl := bud_lt g2.cl B
  have hf3 := cellsOf_keep g3.m hf2
  obtain ⟨n, hnc, hnl⟩ : ∃ n : Nat, cut.tmod ((l.length : Int) + 1) = (n : Int) ∧ n ≤ l.length := by
    refine ⟨(cut % ((l.length : Int) + 1)).toNat, ?_, ?_⟩
    · rw [tmod_pos hcut.1]
      have := Int.emod_nonneg cut (show (l.length : Int) + 1 ≠ 0 by omega)
      omega
    · have := Int.emod_lt_of_pos cut (show (0 : Int) < (l.length : Int) + 1 by omega)
      omega
  have wc : IntKind.i64.wrap cut = cut := IntWalk.i64_in _ (by omega)
  have wl : IntKind.i64.wrap ((l.length : Int) + 1) = (l.length : Int) + 1 := IntWalk.i64_in _ (by omega)
  have wn : IntKind.i64.wrap (n : Int) = (n : Int) := IntWalk.i64_in _ (by omega)
  have wz : ¬ (l.length : Int) + 1 = 0 := by omega
  simp [wc, wl, hnc, wn, wz]
  have k13 : ∀ y ob, H.m y = some ob → H3.m y = some ob := fun y ob e => g3.m y ob (g2.m y ob e)
  have hbl' := bud_lt g3.cl B'
  refine (badd_ok (st := ([], false)) (bud_keep B g3.m) l _ (fun Z f => (slG_ec hl1).keep (old3 g1.cl k13 q1 q2 q3 f)) (by omega)).mono ?_
  rintro r1 H4 ⟨⟨t1, rfl, ht1⟩, B4, f4, c4⟩
  have k14 := old3 g1.cl k13 q1 q2 q3 f4
  have B4' : Bud H4 b' mh' mm' d p s [] false := bud_keep' B' fun y ob e q => f4.m y ob e (by rcases q with q | q | q <;> omega) (by rcases q with q | q | q <;> omega) (by rcases q with q | q | q <;> omega)
  have hl4 := hl1.keep k14
  have hcap := slG_cap hl4
  have hf4 := cellsOf_keep k14 hf
  have n4 := f4.n
  have n3 := g3.n
  have n2 := g2.n
  simp [ab_drop hnl hcap]
  refine oK_of (w := wDrop ad l.length c n) (Z := H4) ?_ ?_
  · rcases hl4 with ⟨c', e, rfl⟩ | ⟨bb, o, cap, cs, m, e, h1, h2, h3, h5, h6⟩
    · simp only [Value.slice.injEq] at e
      obtain ⟨rfl, _, rfl⟩ := e
      simp [wDrop]
    · simp only [Value.slice.injEq] at h1
      obtain ⟨rfl, _, rfl⟩ := h1
      simp [wDrop, h2, h5]
      exact fun q => h5 q
  simp
  have kF : ∀ Z, BFr H4 b' mh' mm' Z → ∀ y ob, H.m y = some ob → Z.m y = some ob := fun Z f => old3 g1.cl k14 (by omega) (by omega) (by omega) f
  refine (badd_ok (st := ([], false)) B4' (l.drop n) _ (fun Z f => wDrop_sl (hl1.keep (kF Z f)) hnl) (by rw [List.length_drop]; omega)).mono ?_
  rintro r2 H5 ⟨⟨t2, rfl, ht2⟩, B5', f5, c5⟩
  have k15 := kF H5 f5
  have hl5 := hl1.keep k15
  have B5 := bud_keep' B4 (h' := H5) fun y ob e q => f5.m y ob e (by rcases q with q | q | q <;> omega) (by rcases q with q | q | q <;> omega) (by rcases q with q | q | q <;> omega)
  have n5 := f5.n
  simp [ab_take (len := l.length) (show n ≤ c by omega)]
  refine oK_of (w := wTake ad c n) (Z := H5) ?_ ?_
  · rcases hl5 with ⟨c', e, rfl⟩ | ⟨bb, o, cap, cs, m, e, h1, h2, h3, h5, h6⟩
    · simp only [Value.slice.injEq] at e
      obtain ⟨rfl, _, rfl⟩ := e
      simp [wTake]
    · simp only [Value.slice.injEq] at h1
      obtain ⟨rfl, _, rfl⟩ := h1
      simp [wTake, h2, h5]
      exact fun q => h5 q
  simp
  have kG : ∀ Z, BFr H5 b' mh' mm' Z → ∀ y ob, H.m y = some ob → Z.m y = some ob := fun Z f => old3 g1.cl k15 (by omega) (by omega) (by omega) f
  refine (badd_ok B5' (l.take n) _ (fun Z f => wTake_sl (hl1.keep (kG Z f)) hnl) (by rw [List.length_take]; omega)).mono ?_
  rintro r3 H6 ⟨⟨t3, rfl, ht3⟩, B6', f6, c6⟩
  have k16 := kG H6 f6
  have B6 := bud_keep' B5 (h' := H6) fun y ob e q => f6.m y ob e (by rcases q with q | q | q <;> omega) (by rcases q with q | q | q <;> omega) (by rcases q with q | q | q <;> omega)
  have n6 := f6.n
  have hf6 := cellsOf_keep k16 hf
  have happ : addL d p s (addL d p s ([], false) (l.drop n)) (l.take n) = addL d p s ([], false) (l.drop n ++ l.take n) := by unfold addL; rw [List.foldl_append]
  rw [happ] at B6'
  have hsame := fun q => addL_same (d := d) (p := p) (s := s) (l := l) (m := l.drop n ++ l.take n) (fun e => by
    rw [List.mem_append]
    have := congrArg (fun z => e ∈ z) (List.take_append_drop n l)
    simp only [List.mem_append, eq_iff_iff] at this
    rw [← this]
    exact or_comm) q
  simp
  generalize (addL d p s ([], false) l).1 = X1 at *
  generalize (addL d p s ([], false) l).2 = o1 at *
  generalize (addL d p s ([], false) (l.drop n ++ l.take n)).1 = X2 at *
  generalize (addL d p s ([], false) (l.drop n ++ l.take n)).2 = o2 at *
  have hcc : ∀ q, cnt d p s X1 q = cnt d p s X2 q := fun q => (hsame q).1
  have hoo : o1 = o2 := (hsame (0, 0)).2
  subst hoo
  have hwide : ∀ q, ¬ d + p < (cnt d p s X2 q : Int) := fun q => by
    have := cnt_wide hr B6'.nd B6'.lim q
    omega
  have hwd : wide d p s = d + p := by unfold wide; rw [if_pos hr]
  have hH6 : h.n ≤ H6.n := by have := g1.n; omega
  have hb6 := bud_lt c6 B6
  have hb6' := bud_lt c6 B6'
  have hn6 := cellsOf_lt c6 hf6
  have s6 : H6.Sub h.n H6 := ⟨hH6, Nat.le_refl _, fun _ _ e => e, c6⟩
  refine awp_loop_of (α := Nat) (fun a => a ≤ 3)
    (fun a => [(3, .pointer (some ⟨h.n, 0, none⟩)), (7, .pointer (some ⟨b, 0, none⟩)), (9, .pointer (some ⟨b', 0, none⟩)), (12, .int .i64 a)]) (fun _ => H6) (fun a => 3 - a) 0
    (Nat.zero_le _) s6 (by simp; exact ⟨.ptr hn6, .ptr hb6.1, .ptr hb6'.1, .int⟩) ?_
  intro a ha
  have ea : IntKind.i64.wrap ((a : Int) + 1) = ((a + 1 : Nat) : Int) := by rw [IntWalk.i64_in _ (by omega)]; omega
  by_cases ha3 : a < 3
  · have ha' : (a : Int) < 3 := by omega
    simp [ha']
    refine awp_loop_of (α := Nat) (fun i => i ≤ 8)
      (fun i => [(3, .pointer (some ⟨h.n, 0, none⟩)), (7, .pointer (some ⟨b, 0, none⟩)), (9, .pointer (some ⟨b', 0, none⟩)), (12, .int .i64 a), (13, .int .i64 i)]) (fun _ => H6) (fun i => 8 - i) 0
      (Nat.zero_le _) s6 (by simp; exact ⟨.ptr hn6, .ptr hb6.1, .ptr hb6'.1, .int, .int⟩) ?_
    intro i hi
    have ei : IntKind.i64.wrap ((i : Int) + 1) = ((i + 1 : Nat) : Int) := by rw [IntWalk.i64_in _ (by omega)]; omega
    by_cases his : (i : Int) < s
    · simp [hf6, apart, his]
      refine (bhits_ok B6 a i).mono ?_
      rintro _ h9 ⟨rfl, e⟩
      rw [e]
      clear e h9
      simp
      refine (bhits_ok B6' a i).mono ?_
      rintro _ h9 ⟨rfl, e⟩
      rw [e]
      clear e h9
      simp [hcc, hf6, apart, ac]
      refine (bhits_ok B6 a i).mono ?_
      rintro _ h9 ⟨rfl, e⟩
      rw [e]
      clear e h9
      simp [hcc, hf6, apart, ac]
      have wo := wide_ok d p s H6
      unfold gv at wo
      refine wo.mono ?_
      rintro _ h9 ⟨rfl, e⟩
      rw [e]
      clear e h9 wo
      have hw2 := hwide ((a : Int), (i : Int))
      simp [hwd, hw2, ei, -Int.natCast_add]
      exact ⟨i + 1, by omega, by omega, s6, .ptr hn6, .ptr hb6.1, .ptr hb6'.1, .int, rfl, .int⟩
    · simp [hf6, apart, his, ea, -Int.natCast_add]
      exact ⟨a + 1, by omega, by omega, s6, .ptr hn6, .ptr hb6.1, .ptr hb6'.1, rfl, .int⟩
  · have hae : a = 3 := by omega
    subst hae
    simp
    refine (bwithin_ok B6 (by have := B6.len; omega)).mono ?_
    rintro _ h9 ⟨⟨x1, rfl, hx1⟩, e⟩
    rw [e]
    clear e h9
    simp
    refine (bwithin_ok B6' (by have := B6'.len; omega)).mono ?_
    rintro _ h9 ⟨⟨x2, rfl, hx2⟩, e⟩
    rw [e]
    clear e h9
    have hx : x1 = x2 := by
      rw [Bool.eq_iff_iff, hx1, hx2]
      unfold wth
      simp only [hcc]
    subst hx
    simp [aeq]
end Go.Proofs.Ythhhcpbkedikfaa.budb
