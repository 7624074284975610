/-
  Contracts.
-/
import Derived.Test.YtofoihlcjmghfaaGreatDoorVers
import Derived.Test.YtofoihlcjmghfaaGreatDoorStr
import Derived.Test.YtofoihlcjmghfaaGreatDoorAbEnter
import Derived.Test.YtofoihlcjmghfaaGreatDoorAbStep
import Derived.Test.YtofoihlcjmghfaaGreatDoorProg
import Derived.IntWalk
import Derived.KernelRfl
set_option linter.unusedSimpArgs false
set_option linter.unusedVariables false
set_option linter.unusedSectionVars false
namespace Go.Proofs.YtofoihlcjmghfaaGreatDoor.lin1
open Go Go.Ab Go.Proofs Go.RowKit Go.Proofs.YtofoihlcjmghfaaGreatDoor.str Go.Proofs.YtofoihlcjmghfaaGreatDoor.vers
variable [Inhabited TabBox]
variable [Nonempty GF]
variable [Nonempty GE]
set_option maxRecDepth 100000
attribute [local simp] s_ops s_seq s_cond s_cond_t s_cond_f s_block s_exit s_ret s_skip s_then_n s_then_n' s_then_e s_then_e' s_then_r s_then_r' s_block_n s_block_r s_block_e s_post_r s_post_n s_res0 s_res1 s_res2 s_res3 s_res4 s_nil s_cons s_guard s_guard_tt s_guard_ff s_guard_tf s_guard_ft s_guard_u s_call s_kL s_put s_put0 s_set s_tmp s_const s_func s_glob s_init s_mkF s_mkF0 s_mv s_bin s_pick s_op aop oK_some oK_none bK_some bK_none b_add b_sub b_mul b_quo b_rem b_and b_or b_xor b_andNot b_shl b_shr b_eql b_neq b_lss b_leq b_gtr b_geq b_sadd b_seql b_sneq b_slss b_sleq b_sgtr b_sgeq s_draw s_drawT s_tK s_tT s_tF s_tB s_tR s_stage s_stage0 s_kW s_kR s_rc0 s_rc s_rcg rK_some rK_none rG_b rG_u s_callv s_callv_f s_nextM s_postR_r s_postR_n s_resA0 s_resAt s_resAc s_resC s_tup0 s_tup1 s_tup2 s_tup3
def c86 : AC := .seq (.ops [⟨some 4,none,.mv (.const (.string ⟨⟨[]⟩⟩))⟩,⟨some 5,none,.mv (.const (.string ⟨⟨[]⟩⟩))⟩,⟨some 6,none,.mv (.const (.bool false))⟩]) (.seq (.seq (.ops [⟨some 8,none,.mv (.tmp 0)⟩,⟨some 9,none,.mv (.tmp 1)⟩,⟨some 10,none,.call 119 [.tmp 8,.tmp 9]⟩,⟨some 7,none,.mv (.tmp 10)⟩]) (.seq (.ops [⟨some 11,none,.mv (.tmp 7)⟩,⟨some 12,none,.bin .geq (.tmp 11) (.const (.int .i64 0))⟩]) (.cond (.tmp 12) (.seq (.draw [([⟨some 13,none,.mv (.tmp 0)⟩,⟨some 14,none,.mv (.tmp 7)⟩,⟨some 15,none,.slS (.tmp 13) none (some (.tmp 14))⟩,⟨some 16,none,.mv (.tmp 0)⟩,⟨some 17,none,.mv (.tmp 7)⟩,⟨some 18,none,.mv (.tmp 1)⟩,⟨some 19,none,.lenS true (.tmp 18)⟩,⟨some 20,none,.bin .add (.tmp 17) (.tmp 19)⟩,⟨some 21,none,.slS (.tmp 16) (some (.tmp 20)) none⟩,⟨some 4,none,.mv (.tmp 15)⟩,⟨some 5,none,.mv (.tmp 21)⟩,⟨some 6,none,.mv (.const (.bool true))⟩],[],[])]) .ret) .skip))) (.seq (.ops [⟨some 22,none,.mv (.tmp 0)⟩,⟨some 4,none,.mv (.tmp 22)⟩,⟨some 5,none,.mv (.const (.string ⟨⟨[]⟩⟩))⟩,⟨some 6,none,.mv (.const (.bool false))⟩]) .ret))
theorem k86 : compF Tryz.prog Tryz.f86 = some (c86, [4, 5, 6]) := by kernel_rfl
theorem n86 : Tryz.f86.ntmps = 23 := by kernel_rfl
def c49 : AC := .seq (.ops [⟨some 4,none,.mv (.const (.string ⟨⟨[]⟩⟩))⟩,⟨some 5,none,.mv (.const (.string ⟨⟨[]⟩⟩))⟩,⟨some 6,none,.mv (.const (.bool false))⟩]) (.seq (.ops [⟨some 7,none,.mv (.tmp 0)⟩,⟨some 8,none,.mv (.tmp 1)⟩,⟨some 9,none,.call 86 [.tmp 7,.tmp 8]⟩,⟨some 10,none,.extr (.tmp 9) 0⟩,⟨some 11,none,.extr (.tmp 9) 1⟩,⟨some 12,none,.extr (.tmp 9) 2⟩,⟨some 4,none,.mv (.tmp 10)⟩,⟨some 5,none,.mv (.tmp 11)⟩,⟨some 6,none,.mv (.tmp 12)⟩]) .ret)
theorem k49 : compF Tryz.prog Tryz.f49 = some (c49, [4, 5, 6]) := by kernel_rfl
theorem n49 : Tryz.f49.ntmps = 13 := by kernel_rfl
def cutB (c : UInt8) (l : List UInt8) : List UInt8 × List UInt8 × Bool := match idx1 c l with
  | some i => (l.take i, l.drop (i + 1), true)
  | none => (l, [], false)
theorem idxS1_ok (l : List UInt8) (c : UInt8) (h : Heap) : ACalls Tryz.prog 119 [.string (bs l), .string (bs [c])] h fun v h' => v = .int .i64 (match idx1 c l with | some i => (i : Int) | none => -1) ∧ h' = h := by
  refine acalls_of mix Tryz.func119 k119 n119 (by simp) fun hcl hb => ?_
  have hs1 : (bs [c]).size = 1 := rfl
  have hd1 : (bs [c]).data.toList = [c] := rfl
  have h0 : aidx (.int .i64 0) 1 = some 0 := rfl
  by_cases heq : bs [c] = bs l
  · have : l = [c] := (bs_inj.1 heq).symm
    subst this
    simp [c119, hs1, hd1, h0, idx1]
  · simp [c119, hs1, hd1, h0, heq]
    exact (iby_ok l c h).mono fun v h' q => by
      obtain ⟨rfl, rfl⟩ := q
      simp
      cases idx1 c l <;> rfl
theorem cut1_ok (l : List UInt8) (c : UInt8) (h : Heap) (hl : l.length ≤ 1000000) : ACalls Tryz.prog 49 [.string (bs l), .string (bs [c])] h fun v h' => v = .tuple #[sv (cutB c l).1, sv (cutB c l).2.1, .bool (cutB c l).2.2] ∧ h' = h := by
  refine acalls_of mix Tryz.func49 k49 n49 (by simp) fun hcl hb => ?_
  simp [c49]
  refine ACalls.mono (R := fun v h' => v = .tuple #[sv (cutB c l).1, sv (cutB c l).2.1, .bool (cutB c l).2.2] ∧ h' = h) ?_ ?_
  · refine acalls_of mix Tryz.func86 k86 n86 (by simp) fun hcl hb => ?_
    simp [c86]
    refine (idxS1_ok l c h).mono ?_
    rintro _ h9 ⟨rfl, e⟩
    rw [e]; clear e h9
    cases hx : idx1 c l with
    | none => simp [cutB, hx]; exact ⟨rfl, rfl⟩
    | some i =>
      obtain ⟨a, b, rfl, hca, rfl⟩ := idx1_some hx
      have hs1 : (bs [c]).size = 1 := rfl
      have q1 : IntKind.i64.wrap ((a.length : Int) + 1) = ((a.length + 1 : Nat) : Int) := w1 _ (by simp at hl; omega)
      have b1 : abounds (bs (a ++ c :: b)).size (bs (a ++ c :: b)).size none (some (.int .i64 (a.length : Int))) none = some (0, a.length, (bs (a ++ c :: b)).size) := abounds_hi (by rw [bs_size]; simp)
      have b2 : abounds (bs (a ++ c :: b)).size (bs (a ++ c :: b)).size (some (.int .i64 ((a.length + 1 : Nat) : Int))) none none = some (a.length + 1, (bs (a ++ c :: b)).size, (bs (a ++ c :: b)).size) := abounds_lo (by rw [bs_size]; simp) (Nat.le_refl _)
      have x1 : (bs (a ++ c :: b)).extract 0 a.length = bs a := by rw [bs_extract]; simp
      have x2 : (bs (a ++ c :: b)).extract (a.length + 1) (bs (a ++ c :: b)).size = bs b := by
        rw [bs_extract, bs_size, List.take_of_length_le (Nat.le_refl _), ← List.drop_drop]
        simp
      have k1 : cutB c (a ++ c :: b) = (a, b, true) := by
        unfold cutB
        rw [hx]
        dsimp only
        rw [List.take_left, ← List.drop_drop]
        simp
      simp [hs1, q1, b1, b2, x1, x2, k1, -Int.natCast_add]
      exact ⟨rfl, rfl⟩
  · rintro v h' ⟨rfl, rfl⟩
    simp
def LAt (h : Heap) (esz : Nat) (nm : Option Nat) (v : Value) (n : Nat) (cells : List Value) : Prop :=
  (nm = none ∧ v = .slice none 0 0 ∧ n = 0 ∧ cells = []) ∨ ∃ x md e, nm = some x ∧ v = .slice (some ⟨x, 0, none⟩) n n ∧ h.cellsOf x = some (cells, md, e) ∧ cells.length = n * esz ∧ md ≠ .ro ∧ (md.isLoose = true → e = esz)
theorem LAt.form {h : Heap} {esz n : Nat} {nm : Option Nat} {v : Value} {cells : List Value} (l : LAt h esz nm v n cells) : ∃ a, v = .slice a n n := by
  rcases l with ⟨_, rfl, rfl, _⟩ | ⟨x, md, e, _, rfl, _⟩
  · exact ⟨none, rfl⟩
  · exact ⟨_, rfl⟩
theorem LAt.keep {h h' : Heap} {esz n : Nat} {nm : Option Nat} {v : Value} {cells : List Value} (l : LAt h esz nm v n cells) (hk : ∀ x, nm = some x → h'.m x = h.m x) : LAt h' esz nm v n cells := by
  rcases l with q | ⟨x, md, e, h1, h2, h3, h4⟩
  · exact .inl q
  · refine .inr ⟨x, md, e, h1, h2, ?_, h4⟩
    unfold Heap.cellsOf at h3 ⊢
    rw [hk x h1]; exact h3
theorem LAt.below {h : Heap} {esz n : Nat} {nm : Option Nat} {v : Value} {cells : List Value} (l : LAt h esz nm v n cells) (hc : h.Closed) : VBelow h.n v := by
  rcases l with ⟨_, rfl, _⟩ | ⟨x, md, e, _, rfl, h3, _⟩
  · exact .snil
  · exact .slice (cellsOf_lt hc h3)
theorem LAt.lt {h : Heap} {esz n x : Nat} {v : Value} {cells : List Value} (l : LAt h esz (some x) v n cells) (hc : h.Closed) : x < h.n := by
  rcases l with ⟨q, _⟩ | ⟨y, md, e, q, _, h3, _⟩
  · cases q
  · cases q; exact cellsOf_lt hc h3
theorem LAt.sl {α : Type} {enc : α → Value} {h : Heap} {n : Nat} {nm : Option Nat} {v : Value} {l : List α} (q : LAt h 1 nm v n (l.map enc)) : Sl enc h v l := by
  rcases q with ⟨_, rfl, rfl, h4⟩ | ⟨x, md, e, _, rfl, h3, h4, _⟩
  · exact .inl ⟨0, rfl, by simpa using h4⟩
  · have hl : l.length = n := by simpa using h4
    subst hl
    exact .inr ⟨x, 0, _, l.map enc, md, e, rfl, h3, Nat.le_refl _, fun _ => by simp, fun i hi => by simp [hi]⟩
theorem lat_app {h : Heap} {t esz bytes n k : Nat} {nm : Option Nat} {v : Value} {cells new : List Value} (hc : h.Closed) (l : LAt h esz nm v n cells) (hk : 0 < k) (hnew : new.length = k * esz) (hb : ∀ x ∈ new, VBelow h.n x) (hsm : (n + k) * (bytes + 1) ≤ 1099511627776) :
    ∃ a, v = .slice a n n ∧ ∃ v2 H2, aapp h t esz bytes a n n new k = some (v2, H2) ∧ LAt H2 esz (some h.n) v2 (n + k) (cells ++ new) ∧ (∀ y ob, h.m y = some ob → nm ≠ some y → H2.m y = some ob) ∧ H2.n = h.n + 1 ∧ H2.Closed := by
  rcases l with ⟨rfl, rfl, rfl, rfl⟩ | ⟨x, md, e, rfl, rfl, hx, hcl, hro, hes⟩
  · refine ⟨none, rfl, .slice (some ⟨h.n, 0, none⟩) k k, h.push (.cells new (.loose t) esz), ?_, .inr ⟨h.n, .loose t, esz, rfl, by simp, by simpa using cellsOf_new h new (.loose t) esz, by simpa using hnew, by simp, fun _ => rfl⟩, fun y ob e _ => ?_, rfl, closed_push hc fun x hx => (hb x hx).mono (Nat.le_succ _)⟩
    · unfold aapp
      dsimp only
      rw [if_pos ⟨hsm, hnew⟩]
      simp [show k ≠ 0 by omega]
    · rw [push_m, if_neg (by have := (hc y ob e).1; omega)]; exact e
  · have hcut : acut cells 0 (n * esz) = some cells := by rw [← hcl]; exact acut_all cells
    have hxn := cellsOf_lt hc hx
    have hcb : ∀ v ∈ cells ++ new, VBelow (h.n + 1) v := fun v hv => by
      rcases List.mem_append.1 hv with q | q
      · exact ((hc x _ (m_of_cells hx)).2 v q).mono (Nat.le_succ _)
      · exact (hb v q).mono (Nat.le_succ _)
    have hlen : (cells ++ new).length = (n + k) * esz := by simp [hcl, hnew, Nat.add_mul]
    by_cases hl : md.isLoose = true
    · obtain rfl := hes hl
      have hgl : (md.grown t).isLoose = true := by unfold BMode.grown; split <;> (try split) <;> rfl
      refine ⟨some ⟨x, 0, none⟩, rfl, .slice (some ⟨h.n, 0, none⟩) (n + k) (n + k), (h.kill x).push (.cells (cells ++ new) (md.grown t) e), ?_,
        .inr ⟨h.n, md.grown t, e, rfl, rfl, cellsOf_new (h.kill x) _ _ _, hlen, (by intro q; rw [q] at hgl; cases hgl), fun _ => rfl⟩, fun y ob e hne => ?_, rfl, closed_push (fun y ob e => ?_) hcb⟩
      · unfold aapp
        dsimp only
        rw [if_pos ⟨hsm, hnew⟩, hx]
        simp only [if_true]
        rw [hcut]
        simp only [hl, if_true]
        rw [if_neg (by omega), if_pos (by omega)]
      · have hlt := (hc y ob e).1
        rw [push_m, if_neg (by show ¬ y = h.n; omega), kill_m, if_neg (fun q => hne (by rw [q]))]; exact e
      · rw [kill_m] at e
        split at e
        · cases e
        · exact hc y ob e
    · refine ⟨some ⟨x, 0, none⟩, rfl, .slice (some ⟨h.n, 0, none⟩) (n + k) (n + k), h.push (.cells (cells ++ new) (.loose t) esz), ?_,
        .inr ⟨h.n, .loose t, esz, rfl, rfl, cellsOf_new _ _ _ _, hlen, by simp, fun _ => rfl⟩, fun y ob e hne => ?_, rfl, closed_push hc hcb⟩
      · unfold aapp
        dsimp only
        rw [if_pos ⟨hsm, hnew⟩, hx]
        simp only [if_true]
        rw [hcut]
        simp only
        rw [if_neg hl, if_neg (by omega)]
      · have hlt := (hc y ob e).1
        rw [push_m, if_neg (by omega)]; exact e
structure Gr (h H : Heap) : Prop where
  n : h.n ≤ H.n
  cl : H.Closed
  m : ∀ y ob, h.m y = some ob → H.m y = some ob
theorem Gr.push {h H : Heap} (g : Gr h H) {o : AObj} (ho : o.Below (H.n + 1)) : Gr h (H.push o) :=
  ⟨Nat.le_succ_of_le g.n, closed_push g.cl ho, fun y ob e => by have q := g.m y ob e; rw [push_m, if_neg (by have := (g.cl y ob q).1; omega)]; exact q⟩
theorem Gr.sub {h H : Heap} (g : Gr h H) : H.Sub h.n H := ⟨g.n, Nat.le_refl _, fun _ _ e => e, g.cl⟩
end Go.Proofs.YtofoihlcjmghfaaGreatDoor.lin1

