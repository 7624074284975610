/-
  Contracts.
-/
import Derived.Test.YtdmloongeohhhaaGreatDoorVers
import Derived.Test.YtdmloongeohhhaaGreatDoorStr
import Derived.Test.YtdmloongeohhhaaGreatDoorAbEnter
import Derived.Test.YtdmloongeohhhaaGreatDoorAbStep
import Derived.Test.YtdmloongeohhhaaGreatDoorProg
import Derived.IntWalk
import Derived.KernelRfl
set_option linter.unusedSimpArgs false
set_option linter.unusedVariables false
set_option linter.unusedSectionVars false
namespace Go.Proofs.YtdmloongeohhhaaGreatDoor.lin1
open Go Go.Ab Go.Proofs Go.RowKit Go.Proofs.YtdmloongeohhhaaGreatDoor.str Go.Proofs.YtdmloongeohhhaaGreatDoor.vers
variable [Inhabited TabBox]
variable [Nonempty GF]
variable [Nonempty GE]
set_option maxRecDepth 100000
attribute [local simp] s_ops s_seq s_cond s_cond_t s_cond_f s_block s_exit s_ret s_skip s_then_n s_then_n' s_then_e s_then_e' s_then_r s_then_r' s_block_n s_block_r s_block_e s_post_r s_post_n s_res0 s_res1 s_res2 s_res3 s_res4 s_nil s_cons s_guard s_guard_tt s_guard_ff s_guard_tf s_guard_ft s_guard_u s_call s_kL s_put s_put0 s_set s_tmp s_const s_func s_glob s_init s_mkF s_mkF0 s_mv s_bin s_pick s_op aop oK_some oK_none bK_some bK_none b_add b_sub b_mul b_quo b_rem b_and b_or b_xor b_andNot b_shl b_shr b_eql b_neq b_lss b_leq b_gtr b_geq b_sadd b_seql b_sneq b_slss b_sleq b_sgtr b_sgeq s_draw s_drawT s_tK s_tT s_tF s_tB s_tR s_stage s_stage0 s_kW s_kR s_rc0 s_rc s_rcg rK_some rK_none rG_b rG_u s_callv s_callv_f s_nextM s_postR_r s_postR_n s_resA0 s_resAt s_resAc s_resC s_tup0 s_tup1 s_tup2 s_tup3
def c117 : AC := .seq (.ops [⟨ some 4, none, .mv (.const (.string ⟨ ⟨[] ⟩ ⟩)) ⟩, ⟨ some 5, none, .mv (.const (.string ⟨ ⟨[] ⟩ ⟩)) ⟩, ⟨ some 6, none, .mv (.const (.bool false)) ⟩]) (.seq (.seq (.ops [⟨ some 8, none, .mv (.tmp 0) ⟩, ⟨ some 9, none, .mv (.tmp 1) ⟩, ⟨ some 10, none, .call 148 [.tmp 8, .tmp 9] ⟩, ⟨ some 7, none, .mv (.tmp 10) ⟩]) (.seq (.ops [⟨ some 11, none, .mv (.tmp 7) ⟩, ⟨ some 12, none, .bin .geq (.tmp 11) (.const (.int .i64 0)) ⟩]) (.cond (.tmp 12) (.seq (.draw [([⟨ some 13, none, .mv (.tmp 0) ⟩, ⟨ some 14, none, .mv (.tmp 7) ⟩, ⟨ some 15, none, .slS (.tmp 13) none (some (.tmp 14)) ⟩, ⟨ some 16, none, .mv (.tmp 0) ⟩, ⟨ some 17, none, .mv (.tmp 7) ⟩, ⟨ some 18, none, .mv (.tmp 1) ⟩, ⟨ some 19, none, .lenS true (.tmp 18) ⟩, ⟨ some 20, none, .bin .add (.tmp 17) (.tmp 19) ⟩, ⟨ some 21, none, .slS (.tmp 16) (some (.tmp 20)) none ⟩, ⟨ some 4, none, .mv (.tmp 15) ⟩, ⟨ some 5, none, .mv (.tmp 21) ⟩, ⟨ some 6, none, .mv (.const (.bool true)) ⟩], [], [])]) .ret) .skip))) (.seq (.ops [⟨ some 22, none, .mv (.tmp 0) ⟩, ⟨ some 4, none, .mv (.tmp 22) ⟩, ⟨ some 5, none, .mv (.const (.string ⟨ ⟨[] ⟩ ⟩)) ⟩, ⟨ some 6, none, .mv (.const (.bool false)) ⟩]) .ret))
theorem k117 : compF Tryz.prog Tryz.f117 = some (c117, [4, 5, 6]) := by kernel_rfl
theorem n117 : Tryz.f117.ntmps = 23 := by kernel_rfl
def c84 : AC := .seq (.ops [⟨ some 4, none, .mv (.const (.string ⟨ ⟨[] ⟩ ⟩)) ⟩, ⟨ some 5, none, .mv (.const (.string ⟨ ⟨[] ⟩ ⟩)) ⟩, ⟨ some 6, none, .mv (.const (.bool false)) ⟩]) (.seq (.ops [⟨ some 7, none, .mv (.tmp 0) ⟩, ⟨ some 8, none, .mv (.tmp 1) ⟩, ⟨ some 9, none, .call 117 [.tmp 7, .tmp 8] ⟩, ⟨ some 10, none, .extr (.tmp 9) 0 ⟩, ⟨ some 11, none, .extr (.tmp 9) 1 ⟩, ⟨ some 12, none, .extr (.tmp 9) 2 ⟩, ⟨ some 4, none, .mv (.tmp 10) ⟩, ⟨ some 5, none, .mv (.tmp 11) ⟩, ⟨ some 6, none, .mv (.tmp 12) ⟩]) .ret)
theorem k84 : compF Tryz.prog Tryz.f84 = some (c84, [4, 5, 6]) := by kernel_rfl
theorem n84 : Tryz.f84.ntmps = 13 := by kernel_rfl
/-! kinds' names, and letters; a cut at a byte -/
def formsL : List (List UInt8) := [[], [66, 79, 79, 84], [66, 69, 71, 73, 78], [87, 82, 73, 84, 69, 32, 83], [70, 73, 78, 73, 83, 72], [65, 66, 79, 82, 84], [84, 82, 89], [67, 79, 78, 70, 73, 82, 77], [82, 79, 76, 76, 66, 65, 67, 75], [70, 65, 73, 76], [80, 82, 79, 86, 73, 83, 73, 79, 78, 32, 65], [67, 76, 69, 65, 82, 32, 65], [83, 84, 69, 80], [70, 85, 83, 69, 32, 65, 66, 77], [80, 79, 87, 69, 82], [82, 79, 84, 32, 65, 83]]
def namesL : List (List UInt8) := [[], [66, 79, 79, 84], [66, 69, 71, 73, 78], [87, 82, 73, 84, 69], [70, 73, 78, 73, 83, 72], [65, 66, 79, 82, 84], [84, 82, 89], [67, 79, 78, 70, 73, 82, 77], [82, 79, 76, 76, 66, 65, 67, 75], [70, 65, 73, 76], [80, 82, 79, 86, 73, 83, 73, 79, 78], [67, 76, 69, 65, 82], [83, 84, 69, 80], [70, 85, 83, 69], [80, 79, 87, 69, 82], [82, 79, 84]]
def lettersL : List (List UInt8) := [[], [], [], [83], [], [], [], [], [], [], [65], [65], [], [65, 66, 77], [], [65, 83]]
def cutB (c : UInt8) (l : List UInt8) : List UInt8 × List UInt8 × Bool := match idx1 c l with
  | some i => (l.take i, l.drop (i + 1), true)
  | none => (l, [], false)
theorem idxS1_ok (l : List UInt8) (c : UInt8) (h : Heap) : ACalls Tryz.prog 148 [.string (bs l), .string (bs [c])] h fun v h' => v = .int .i64 (match idx1 c l with | some i => (i : Int) | none => -1) ∧ h' = h := by
  refine acalls_of mix Tryz.func148 k148 n148 (by simp) fun hcl hb => ?_
  have hs1 : (bs [c]).size = 1 := rfl
  have hd1 : (bs [c]).data.toList = [c] := rfl
  have h0 : aidx (.int .i64 0) 1 = some 0 := rfl
  by_cases heq : bs [c] = bs l
  · have : l = [c] := (bs_inj.1 heq).symm
    subst this
    simp [c148, hs1, hd1, h0, idx1]
  · simp [c148, hs1, hd1, h0, heq]
    exact (iby_ok l c h).mono fun v h' q => by
      obtain ⟨rfl, rfl⟩ := q
      simp
      cases idx1 c l <;> rfl
theorem cut1_ok (l : List UInt8) (c : UInt8) (h : Heap) (hl : l.length ≤ 1000000) : ACalls Tryz.prog 84 [.string (bs l), .string (bs [c])] h fun v h' => v = .tuple #[sv (cutB c l).1, sv (cutB c l).2.1, .bool (cutB c l).2.2] ∧ h' = h := by
  refine acalls_of mix Tryz.func84 k84 n84 (by simp) fun hcl hb => ?_
  simp [c84]
  refine ACalls.mono (R := fun v h' => v = .tuple #[sv (cutB c l).1, sv (cutB c l).2.1, .bool (cutB c l).2.2] ∧ h' = h) ?_ ?_
  · refine acalls_of mix Tryz.func117 k117 n117 (by simp) fun hcl hb => ?_
    simp [c117]
    refine (idxS1_ok l c h).mono ?_
    rintro _ h9 ⟨rfl, e⟩
    rw [e]; clear e h9
    cases hx : idx1 c l with
    | none => simp [cutB, hx]; exact ⟨rfl, rfl⟩
    | some i =>
      obtain ⟨a, b, rfl, hca, rfl⟩ := idx1_some hx
      have hs1 : (bs [c]).size = 1 := rfl
      have q1 : IntKind.i64.wrap ((a.length : Int) + 1) = ((a.length + 1 : Nat) : Int) := w1 _ (by simp at hl; omega)
      have b1 : abounds (bs (a ++ c :: b)).size (bs (a ++ c :: b)).size none (some (.int .i64 (a.length : Int))) none = some (0, a.length, (bs (a ++ c :: b)).size) := abounds_hi (by rw [bs_size]; simp)
      have b2 : abounds (bs (a ++ c :: b)).size (bs (a ++ c :: b)).size (some (.int .i64 ((a.length + 1 : Nat) : Int))) none none = some (a.length + 1, (bs (a ++ c :: b)).size, (bs (a ++ c :: b)).size) := abounds_lo (by rw [bs_size]; simp) (Nat.le_refl _)
      have x1 : (bs (a ++ c :: b)).extract 0 a.length = bs a := by rw [bs_extract]; simp
      have x2 : (bs (a ++ c :: b)).extract (a.length + 1) (bs (a ++ c :: b)).size = bs b := by
        rw [bs_extract, bs_size, List.take_of_length_le (Nat.le_refl _), ← List.drop_drop]
        simp
      have k1 : cutB c (a ++ c :: b) = (a, b, true) := by
        unfold cutB
        rw [hx]
        dsimp only
        rw [List.take_left, ← List.drop_drop]
        simp
      simp [hs1, q1, b1, b2, x1, x2, k1, -Int.natCast_add]
      exact ⟨rfl, rfl⟩
  · rintro v h' ⟨rfl, rfl⟩
    simp
theorem formsL_len : formsL.length = 16 := rfl
/-- a kind's name, and its letters -/
def nmB (k : Int) : List UInt8 := if 1 ≤ k ∧ k ≤ 15 then namesL.getD k.toNat [] else []
def ltB (k : Int) : List UInt8 := if 1 ≤ k ∧ k ≤ 15 then lettersL.getD k.toNat [] else []
/-! lists that one appends to, among other blocks -/
def LAt (h : Heap) (esz : Nat) (nm : Option Nat) (v : Value) (n : Nat) (cells : List Value) : Prop :=
  (nm = none ∧ v = .slice none 0 0 ∧ n = 0 ∧ cells = []) ∨ ∃ x md e, nm = some x ∧ v = .slice (some ⟨x, 0, none⟩) n n ∧ h.cellsOf x = some (cells, md, e) ∧ cells.length = n * esz ∧ md ≠ .ro ∧ (md.isLoose = true → e = esz)
theorem LAt.form {h : Heap} {esz n : Nat} {nm : Option Nat} {v : Value} {cells : List Value} (l : LAt h esz nm v n cells) : ∃ a, v = .slice a n n := by
  rcases l with ⟨_, rfl, rfl, _⟩ | ⟨x, md, e, _, rfl, _⟩
  · exact ⟨none, rfl⟩
  · exact ⟨_, rfl⟩
theorem LAt.keep {h h' : Heap} {esz n : Nat} {nm : Option Nat} {v : Value} {cells : List Value} (l : LAt h esz nm v n cells) (hk : ∀ x, nm = some x → h'.m x = h.m x) : LAt h' esz nm v n cells := by
  rcases l with q | ⟨x, md, e, h1, h2, h3, h4⟩
  · exact .inl q
  · refine .inr ⟨x, md, e, h1, h2, ?_, h4⟩
    unfold Heap.cellsOf at h3 ⊢
    rw [hk x h1]; exact h3
theorem LAt.below {h : Heap} {esz n : Nat} {nm : Option Nat} {v : Value} {cells : List Value} (l : LAt h esz nm v n cells) (hc : h.Closed) : VBelow h.n v := by
  rcases l with ⟨_, rfl, _⟩ | ⟨x, md, e, _, rfl, h3, _⟩
  · exact .snil
  · exact .slice (cellsOf_lt hc h3)
theorem LAt.lt {h : Heap} {esz n x : Nat} {v : Value} {cells : List Value} (l : LAt h esz (some x) v n cells) (hc : h.Closed) : x < h.n := by
  rcases l with ⟨q, _⟩ | ⟨y, md, e, q, _, h3, _⟩
  · cases q
  · cases q; exact cellsOf_lt hc h3
theorem LAt.sl {α : Type} {enc : α → Value} {h : Heap} {n : Nat} {nm : Option Nat} {v : Value} {l : List α} (q : LAt h 1 nm v n (l.map enc)) : Sl enc h v l := by
  rcases q with ⟨_, rfl, rfl, h4⟩ | ⟨x, md, e, _, rfl, h3, h4, _⟩
  · exact .inl ⟨0, rfl, by simpa using h4⟩
  · have hl : l.length = n := by simpa using h4
    subst hl
    exact .inr ⟨x, 0, _, l.map enc, md, e, rfl, h3, Nat.le_refl _, fun _ => by simp, fun i hi => by simp [hi]⟩
theorem LAt.made (h : Heap) (esz : Nat) : LAt (h.push (.cells [] .ex 1)) esz (some h.n) (.slice (some ⟨h.n, 0, none⟩) 0 0) 0 [] :=
  .inr ⟨h.n, .ex, 1, rfl, rfl, cellsOf_new _ _ _ _, by simp, by decide, fun q => by cases q⟩
theorem lat_app {h : Heap} {t esz bytes n k : Nat} {nm : Option Nat} {v : Value} {cells new : List Value} (hc : h.Closed) (l : LAt h esz nm v n cells) (hk : 0 < k) (hnew : new.length = k * esz) (hb : ∀ x ∈ new, VBelow h.n x) (hsm : (n + k) * (bytes + 1) ≤ 1099511627776) :
    ∃ a, v = .slice a n n ∧ ∃ v2 H2, aapp h t esz bytes a n n new k = some (v2, H2) ∧ LAt H2 esz (some h.n) v2 (n + k) (cells ++ new) ∧ (∀ y ob, h.m y = some ob → nm ≠ some y → H2.m y = some ob) ∧ H2.n = h.n + 1 ∧ H2.Closed := by
  rcases l with ⟨rfl, rfl, rfl, rfl⟩ | ⟨x, md, e, rfl, rfl, hx, hcl, hro, hes⟩
  · refine ⟨none, rfl, .slice (some ⟨h.n, 0, none⟩) k k, h.push (.cells new (.loose t) esz), ?_, .inr ⟨h.n, .loose t, esz, rfl, by simp, by simpa using cellsOf_new h new (.loose t) esz, by simpa using hnew, by simp, fun _ => rfl⟩, fun y ob e _ => ?_, rfl, closed_push hc fun x hx => (hb x hx).mono (Nat.le_succ _)⟩
    · unfold aapp
      dsimp only
      rw [if_pos ⟨hsm, hnew⟩]
      simp [show k ≠ 0 by omega]
    · rw [push_m, if_neg (by have := (hc y ob e).1; omega)]; exact e
  · have hcut : acut cells 0 (n * esz) = some cells := by rw [← hcl]; exact acut_all cells
    have hxn := cellsOf_lt hc hx
    have hcb : ∀ v ∈ cells ++ new, VBelow (h.n + 1) v := fun v hv => by
      rcases List.mem_append.1 hv with q | q
      · exact ((hc x _ (m_of_cells hx)).2 v q).mono (Nat.le_succ _)
      · exact (hb v q).mono (Nat.le_succ _)
    have hlen : (cells ++ new).length = (n + k) * esz := by simp [hcl, hnew, Nat.add_mul]
    by_cases hl : md.isLoose = true
    · obtain rfl := hes hl
      have hgl : (md.grown t).isLoose = true := by unfold BMode.grown; split <;> (try split) <;> rfl
      refine ⟨some ⟨x, 0, none⟩, rfl, .slice (some ⟨h.n, 0, none⟩) (n + k) (n + k), (h.kill x).push (.cells (cells ++ new) (md.grown t) e), ?_,
        .inr ⟨h.n, md.grown t, e, rfl, rfl, cellsOf_new (h.kill x) _ _ _, hlen, (by intro q; rw [q] at hgl; cases hgl), fun _ => rfl⟩, fun y ob e hne => ?_, rfl, closed_push (fun y ob e => ?_) hcb⟩
      · unfold aapp
        dsimp only
        rw [if_pos ⟨hsm, hnew⟩, hx]
        simp only [if_true]
        rw [hcut]
        simp only [hl, if_true]
        rw [if_neg (by omega), if_pos (by omega)]
      · have hlt := (hc y ob e).1
        rw [push_m, if_neg (by show ¬ y = h.n; omega), kill_m, if_neg (fun q => hne (by rw [q]))]; exact e
      · rw [kill_m] at e
        split at e
        · cases e
        · exact hc y ob e
    · refine ⟨some ⟨x, 0, none⟩, rfl, .slice (some ⟨h.n, 0, none⟩) (n + k) (n + k), h.push (.cells (cells ++ new) (.loose t) esz), ?_,
        .inr ⟨h.n, .loose t, esz, rfl, rfl, cellsOf_new _ _ _ _, hlen, by simp, fun _ => rfl⟩, fun y ob e hne => ?_, rfl, closed_push hc hcb⟩
      · unfold aapp
        dsimp only
        rw [if_pos ⟨hsm, hnew⟩, hx]
        simp only [if_true]
        rw [hcut]
        simp only
        rw [if_neg hl, if_neg (by omega)]
      · have hlt := (hc y ob e).1
        rw [push_m, if_neg (by omega)]; exact e
structure Gr (h H : Heap) : Prop where
  n : h.n ≤ H.n
  cl : H.Closed
  m : ∀ y ob, h.m y = some ob → H.m y = some ob
theorem Gr.push {h H : Heap} (g : Gr h H) {o : AObj} (ho : o.Below (H.n + 1)) : Gr h (H.push o) :=
  ⟨Nat.le_succ_of_le g.n, closed_push g.cl ho, fun y ob e => by have q := g.m y ob e; rw [push_m, if_neg (by have := (g.cl y ob q).1; omega)]; exact q⟩
theorem Gr.sub {h H : Heap} (g : Gr h H) : H.Sub h.n H := ⟨g.n, Nat.le_refl _, fun _ _ e => e, g.cl⟩
theorem lat_bytes {H : Heap} {nm : Option Nat} {v : Value} {l : List UInt8} (hc : H.Closed) (q : LAt H 1 nm v l.length (ubs l)) (M : List UInt8) (hM : 0 < M.length) (hl : l.length + M.length ≤ 100000000) :
    ∃ a, v = .slice a l.length l.length ∧ ∃ v2 H2, aapp (H.push (.cells (ubs M) .ex 1)) 5 1 1 a l.length l.length (ubs M) M.length = some (v2, H2) ∧ LAt H2 1 (some (H.n + 1)) v2 (l ++ M).length (ubs (l ++ M)) ∧
      (∀ y ob, H.m y = some ob → nm ≠ some y → H2.m y = some ob) ∧ H2.n = H.n + 2 ∧ H2.Closed := by
  have l1 : LAt (H.push (.cells (ubs M) .ex 1)) 1 nm v l.length (ubs l) := q.keep fun y e => by
    subst e
    rw [push_m, if_neg (by have := q.lt hc; omega)]
  have hcp : (H.push (.cells (ubs M) .ex 1)).Closed := closed_push hc (o := .cells (ubs M) .ex 1) ubs_bel
  obtain ⟨a, q, v2, H2, happ, l2, keep2, n2, c2⟩ := lat_app (t := 5) (bytes := 1) (k := M.length) (new := ubs M) hcp l1 hM (by rw [ubs_len, Nat.mul_one]) ubs_bel (by omega)
  refine ⟨a, q, v2, H2, happ, ?_, fun y ob e hne => keep2 y ob (by rw [push_m, if_neg (by have := (hc y ob e).1; omega)]; exact e) hne, n2, c2⟩
  rw [ubs_app, List.length_append]; exact l2
/-! hex -/
def digs : List UInt8 := [48, 49, 50, 51, 52, 53, 54, 55, 56, 57, 97, 98, 99, 100, 101, 102]
def dg (k : Nat) : UInt8 := digs.getD k 0
def hexB (D : List UInt8) : List UInt8 := D.flatMap fun b => [dg (b.toNat / 16), dg (b.toNat % 16)]
theorem hexB_app (a b : List UInt8) : hexB (a ++ b) = hexB a ++ hexB b := List.flatMap_append
theorem hexB_len (D : List UInt8) : (hexB D).length = 2 * D.length := by
  induction D with
  | nil => rfl
  | cons x r ih =>
    have : hexB (x :: r) = [dg (x.toNat / 16), dg (x.toNat % 16)] ++ hexB r := rfl
    rw [this, List.length_append, ih]
    simp; omega
theorem digs_get (k : Nat) (h : k < 16) : digs[k]? = some (dg k) := by
  unfold dg
  rw [List.getD, List.getElem?_eq_getElem (by show k < 16; exact h)]
  rfl
theorem and15 (n : Nat) (h : n < 256) : abits .and .u8 (n : Int) 15 = ((n % 16 : Nat) : Int) := by
  unfold abits
  have e1 : BitVec.ofInt 8 (n : Int) = BitVec.ofNat 8 n := by apply BitVec.eq_of_toNat_eq; simp
  have e2 : BitVec.ofInt 8 (15 : Int) = BitVec.ofNat 8 15 := rfl
  show IntKind.u8.wrap (((BitVec.ofInt 8 (n : Int)) &&& (BitVec.ofInt 8 15)).toNat : Int) = _
  rw [e1, e2, BitVec.toNat_and, BitVec.toNat_ofNat, BitVec.toNat_ofNat]
  have h1 : (n % 2 ^ 8) &&& (15 % 2 ^ 8) = n % 16 := by
    rw [Nat.mod_eq_of_lt h]
    exact Nat.and_two_pow_sub_one_eq_mod n 4
  rw [h1]
  unfold IntKind.wrap; simp [IntKind.bits, IntKind.signed]; omega

/-- a text's word -/
def wordB (s : List UInt8) : List UInt8 := 61 :: hexB s
theorem lat_str {H : Heap} {nm : Option Nat} {v : Value} {l : List UInt8} (q : LAt H 1 nm v l.length (ubs l)) :
    (v = .slice none 0 0 ∧ l = []) ∨ ∃ x, v = .slice (some ⟨x, 0, none⟩) l.length l.length ∧ afirst H 1 l.length (.slice (some ⟨x, 0, none⟩) l.length l.length) = some (ubs l) := by
  rcases q with ⟨_, rfl, h1, h2⟩ | ⟨x, md, e, _, rfl, h3, h4, _⟩
  · exact .inl ⟨rfl, by simpa [ubs] using h2⟩
  · refine .inr ⟨x, rfl, ?_⟩
    simp only [afirst, h3, if_true]
    exact acut_full (by rw [ubs_len, Nat.mul_one])
structure XS where
  i : Nat
  nm : Option Nat
  v : Value
  H : Heap
def c96 : AC := .seq (.ops [⟨ some 4, none, .mv (.const (.int .i64 0)) ⟩]) (.seq (.ops [⟨ some 5, none, .mv (.tmp 0) ⟩, ⟨ some 6, none, .mv (.tmp 1) ⟩, ⟨ some 7, none, .call 131 [.tmp 5, .tmp 6] ⟩, ⟨ some 4, none, .mv (.tmp 7) ⟩]) .ret)
theorem k96 : compF Tryz.prog Tryz.f96 = some (c96, [4]) := by kernel_rfl
theorem n96 : Tryz.f96.ntmps = 8 := by kernel_rfl
def c133 : AC := .seq (.ops [⟨ some 4, none, .mv (.const (.bool false)) ⟩]) (.seq (.ops [⟨ some 5, none, .mv (.tmp 0) ⟩, ⟨ some 6, none, .lenS true (.tmp 5) ⟩, ⟨ some 7, none, .mv (.tmp 1) ⟩, ⟨ some 8, none, .lenS true (.tmp 7) ⟩, ⟨ some 9, none, .bin .geq (.tmp 6) (.tmp 8) ⟩, ⟨ some 10, none, .mv (.tmp 9) ⟩, ⟨ some 11, some (10, true), .mv (.tmp 0) ⟩, ⟨ some 12, some (10, true), .mv (.tmp 1) ⟩, ⟨ some 13, some (10, true), .lenS true (.tmp 12) ⟩, ⟨ some 14, some (10, true), .slS (.tmp 11) none (some (.tmp 13)) ⟩, ⟨ some 15, some (10, true), .mv (.tmp 1) ⟩, ⟨ some 16, some (10, true), .bin .eql (.tmp 14) (.tmp 15) ⟩, ⟨ some 17, none, .pick (.tmp 10) (.tmp 16) (.const (.bool false)) ⟩, ⟨ some 4, none, .mv (.tmp 17) ⟩]) .ret)
theorem k133 : compF Tryz.prog Tryz.f133 = some (c133, [4]) := by kernel_rfl
theorem n133 : Tryz.f133.ntmps = 18 := by kernel_rfl
def c125 : AC := .seq (.ops [⟨ some 4, none, .mv (.const (.string ⟨ ⟨[] ⟩ ⟩)) ⟩]) (.seq (.seq (.ops [⟨ some 5, none, .mv (.tmp 0) ⟩, ⟨ some 6, none, .mv (.tmp 1) ⟩, ⟨ some 7, none, .call 133 [.tmp 5, .tmp 6] ⟩]) (.cond (.tmp 7) (.seq (.ops [⟨ some 8, none, .mv (.tmp 0) ⟩, ⟨ some 9, none, .mv (.tmp 1) ⟩, ⟨ some 10, none, .lenS true (.tmp 9) ⟩, ⟨ some 11, none, .slS (.tmp 8) (some (.tmp 10)) none ⟩, ⟨ some 4, none, .mv (.tmp 11) ⟩]) .ret) .skip)) (.seq (.ops [⟨ some 12, none, .mv (.tmp 0) ⟩, ⟨ some 4, none, .mv (.tmp 12) ⟩]) .ret))
theorem k125 : compF Tryz.prog Tryz.f125 = some (c125, [4]) := by kernel_rfl
theorem n125 : Tryz.f125.ntmps = 13 := by kernel_rfl
def c93 : AC := .seq (.ops [⟨ some 4, none, .mv (.const (.string ⟨ ⟨[] ⟩ ⟩)) ⟩]) (.seq (.ops [⟨ some 5, none, .mv (.tmp 0) ⟩, ⟨ some 6, none, .mv (.tmp 1) ⟩, ⟨ some 7, none, .call 125 [.tmp 5, .tmp 6] ⟩, ⟨ some 4, none, .mv (.tmp 7) ⟩]) .ret)
theorem k93 : compF Tryz.prog Tryz.f93 = some (c93, [4]) := by kernel_rfl
theorem n93 : Tryz.f93.ntmps = 8 := by kernel_rfl
/-! a word's text -/
theorem ixb_ok (l : List UInt8) (c : UInt8) (h : Heap) : ACalls Tryz.prog 96 [.string (bs l), .int .u8 (c.toNat : Int)] h fun v h' => v = .int .i64 (match idx1 c l with | some i => (i : Int) | none => -1) ∧ h' = h := by
  refine acalls_of mix Tryz.func96 k96 n96 (by simp) fun hcl hb => ?_
  simp [c96]
  refine (iby_ok l c h).mono ?_
  rintro _ h9 ⟨rfl, rfl⟩
  simp
  cases idx1 c l <;> rfl
def trim1 (c : UInt8) : List UInt8 → List UInt8
  | [] => []
  | x :: r => if x = c then r else x :: r
theorem hasP1_ok (l : List UInt8) (c : UInt8) (h : Heap) : ACalls Tryz.prog 133 [.string (bs l), .string (bs [c])] h fun v h' => v = .bool (decide (l.head? = some c)) ∧ h' = h := by
  refine acalls_of mix Tryz.func133 k133 n133 (by simp) fun hcl hb => ?_
  have hs1 : (bs [c]).size = 1 := rfl
  cases l with
  | nil =>
    have h0 : (bs []).size = 0 := rfl
    simp [c133, hs1, h0]
  | cons x r =>
    have b1 : abounds (bs (x :: r)).size (bs (x :: r)).size none (some (.int .i64 ((1 : Nat) : Int))) none = some (0, 1, (bs (x :: r)).size) := abounds_hi (by rw [bs_size]; simp)
    have x1 : (bs (x :: r)).extract 0 1 = bs [x] := by rw [bs_extract]; rfl
    have hs2 : (bs (x :: r)).size = r.length + 1 := by rw [bs_size]; rfl
    have he : decide (bs [x] = bs [c]) = decide (x = c) := by rw [bs_eq_dec]; simp
    rw [hs2] at b1
    have b1' : abounds (r.length + 1) (r.length + 1) none (some (.int .i64 1)) none = some (0, 1, r.length + 1) := b1
    have hge : (1 : Int) ≤ (r.length : Int) + 1 := by omega
    simp [c133, hs1, hs2, hge, b1', x1, he]
theorem trim1_ok (l : List UInt8) (c : UInt8) (h : Heap) : ACalls Tryz.prog 93 [.string (bs l), .string (bs [c])] h fun v h' => v = sv (trim1 c l) ∧ h' = h := by
  refine acalls_of mix Tryz.func93 k93 n93 (by simp) fun hcl hb => ?_
  simp [c93]
  refine ACalls.mono (R := fun v h' => v = sv (trim1 c l) ∧ h' = h) ?_ ?_
  · refine acalls_of mix Tryz.func125 k125 n125 (by simp) fun hcl hb => ?_
    simp [c125]
    refine (hasP1_ok l c h).mono ?_
    rintro _ h9 ⟨rfl, e⟩
    rw [e]; clear e h9
    have hs1 : (bs [c]).size = 1 := rfl
    cases l with
    | nil => simp; rfl
    | cons x r =>
      have hs2 : (bs (x :: r)).size = r.length + 1 := by rw [bs_size]; rfl
      by_cases hx : x = c
      · have b1 : abounds (r.length + 1) (r.length + 1) (some (.int .i64 1)) none none = some (1, r.length + 1, r.length + 1) := abounds_lo (l := 1) (by omega) (Nat.le_refl _)
        have x1 : (bs (x :: r)).extract 1 (r.length + 1) = bs r := by rw [bs_extract, List.take_of_length_le (by simp)]; rfl
        subst hx
        simp [hs1, hs2, b1, x1, trim1]
        rfl
      · simp [hx, trim1]
        rfl
  · rintro v h' ⟨rfl, rfl⟩
    simp
theorem idx1_lt {c : UInt8} {l : List UInt8} {i : Nat} (h : idx1 c l = some i) : i < l.length := by
  obtain ⟨a, b, rfl, _, rfl⟩ := idx1_some h
  simp
theorem idx_dg (u : Nat) (h : u < 16) : idx1 (dg u) digs = some u := by
  have : ∀ j : Fin 16, idx1 (dg j.val) digs = some j.val := by decide
  exact this ⟨u, h⟩
theorem orl (i j : Nat) (hi : i < 16) (hj : j < 16) : IntKind.u8.wrap (abits .or .i64 (IntKind.i64.wrap ((i : Int) * 16)) j) = ((UInt8.ofNat (16 * i + j)).toNat : Int) := by
  have : ∀ a b : Fin 16, IntKind.u8.wrap (abits .or .i64 (IntKind.i64.wrap ((a.val : Int) * 16)) b.val) = ((UInt8.ofNat (16 * a.val + b.val)).toNat : Int) := by decide
  exact this ⟨i, hi⟩ ⟨j, hj⟩
theorem u8_hl (c : UInt8) : UInt8.ofNat (16 * (c.toNat / 16) + c.toNat % 16) = c := by
  rw [show 16 * (c.toNat / 16) + c.toNat % 16 = c.toNat by omega]
  exact UInt8.ofNat_toNat
/-- a text that a word may have -/
def RB (w : List UInt8) (v : Value) : Prop := (∃ b ok, v = .tuple #[sv b, .bool ok] ∧ b.length ≤ w.length) ∧ ∀ S, w = wordB S → v = .tuple #[sv S, .bool true]
structure YS where
  T : List UInt8
  r : List UInt8
  nm : Option Nat
  v : Value
  H : Heap
end Go.Proofs.YtdmloongeohhhaaGreatDoor.lin1
