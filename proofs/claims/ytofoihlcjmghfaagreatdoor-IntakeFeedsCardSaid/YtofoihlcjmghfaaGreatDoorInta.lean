/-
  Contracts.
-/
import Derived.Test.YtofoihlcjmghfaaGreatDoorVerc
import Derived.Test.YtofoihlcjmghfaaGreatDoorManf
import Derived.Test.YtofoihlcjmghfaaGreatDoorSha
import Derived.Test.YtofoihlcjmghfaaGreatDoorLin1
import Derived.Test.YtofoihlcjmghfaaGreatDoorVers
import Derived.Test.YtofoihlcjmghfaaGreatDoorStr
import Derived.Test.YtofoihlcjmghfaaGreatDoorAbEnter
import Derived.Test.YtofoihlcjmghfaaGreatDoorAbStep
import Derived.Test.YtofoihlcjmghfaaGreatDoorProg
import Derived.IntWalk
import Derived.KernelRfl
set_option linter.unusedSimpArgs false
set_option linter.unusedVariables false
set_option linter.unusedSectionVars false
namespace Go.Proofs.YtofoihlcjmghfaaGreatDoor.inta
open Go Go.Ab Go.Proofs Go.RowKit Go.Proofs.YtofoihlcjmghfaaGreatDoor.str Go.Proofs.YtofoihlcjmghfaaGreatDoor.vers Go.Proofs.YtofoihlcjmghfaaGreatDoor.lin1 Go.Proofs.YtofoihlcjmghfaaGreatDoor.sha Go.Proofs.YtofoihlcjmghfaaGreatDoor.manf Go.Proofs.YtofoihlcjmghfaaGreatDoor.verc
variable [Inhabited TabBox]
variable [Nonempty GF]
variable [Nonempty GE]
set_option maxRecDepth 100000
attribute [local simp] s_ops s_seq s_cond s_cond_t s_cond_f s_block s_exit s_ret s_skip s_then_n s_then_n' s_then_e s_then_e' s_then_r s_then_r' s_block_n s_block_r s_block_e s_post_r s_post_n s_res0 s_res1 s_res2 s_res3 s_res4 s_nil s_cons s_guard s_guard_tt s_guard_ff s_guard_tf s_guard_ft s_guard_u s_call s_kL s_put s_put0 s_set s_tmp s_const s_func s_glob s_init s_mkF s_mkF0 s_mv s_bin s_pick s_op aop oK_some oK_none bK_some bK_none b_add b_sub b_mul b_quo b_rem b_and b_or b_xor b_andNot b_shl b_shr b_eql b_neq b_lss b_leq b_gtr b_geq b_sadd b_seql b_sneq b_slss b_sleq b_sgtr b_sgeq s_draw s_drawT s_tK s_tT s_tF s_tB s_tR s_stage s_stage0 s_kW s_kR s_rc0 s_rc s_rcg rK_some rK_none rG_b rG_u s_callv s_callv_f s_nextM s_postR_r s_postR_n s_resA0 s_resAt s_resAc s_resC s_tup0 s_tup1 s_tup2 s_tup3
variable [Nonempty GM]
open Classical in
noncomputable def splF (s : List UInt8) : List UInt8 × List UInt8 × Bool := if h : ∃ i, spP s i ∧ ∀ j, j < i → ¬ spP s j then (s.take (h.choose + 1), s.drop (h.choose + 1), true) else (s, [], false)
theorem splF_V (s : List UInt8) : SplV s (.tuple #[sv (splF s).1, sv (splF s).2.1, .bool (splF s).2.2]) := by
  unfold splF
  split
  · rename_i h
    exact .inl ⟨h.choose, h.choose_spec.1, h.choose_spec.2, rfl⟩
  · rename_i h
    refine .inr ⟨fun j q => ?_, rfl⟩
    obtain ⟨i, _, h2, h3⟩ := min_of (P := spP s) j q
    exact h ⟨i, h2, h3⟩
theorem splF_of {s : List UInt8} {v : Value} (h : SplV s v) : v = .tuple #[sv (splF s).1, sv (splF s).2.1, .bool (splF s).2.2] := h.uniq (splF_V s)
theorem splF_app (s : List UInt8) : (splF s).1 ++ (splF s).2.1 = s := by
  unfold splF
  split
  · exact List.take_append_drop _ _
  · exact List.append_nil _
theorem splF_no {s : List UInt8} (h : (splF s).2.2 = false) : splF s = (s, [], false) := by
  unfold splF at h ⊢
  split at h
  · cases h
  · rename_i q; rw [dif_neg q]
theorem splF_more {s : List UInt8} (h : (splF s).2.2 = true) (p : List UInt8) : splF (s ++ p) = ((splF s).1, (splF s).2.1 ++ p, true) := by
  have hv := splF_V s
  rcases hv with ⟨i, h1, h2, h3⟩ | ⟨_, h3⟩
  · have hi := getI h1.1
    have hg : ∀ j, j < s.length → (s ++ p)[j]? = s[j]? := fun j hj => List.getElem?_append_left hj
    have k1 : spP (s ++ p) i := ⟨by rw [hg i hi]; exact h1.1, h1.2.imp id fun q => by rw [hg _ (by omega)]; exact q⟩
    have k2 : ∀ j, j < i → ¬ spP (s ++ p) j := fun j hj q => h2 j hj ⟨by rw [← hg j (by omega)]; exact q.1, q.2.imp id fun q => by rw [← hg _ (by omega)]; exact q⟩
    have k3 : SplV (s ++ p) (.tuple #[sv ((s ++ p).take (i + 1)), sv ((s ++ p).drop (i + 1)), .bool true]) := .inl ⟨i, k1, k2, rfl⟩
    have k4 := splF_of k3
    simp only [sv, Value.tuple.injEq, Array.mk.injEq, List.cons.injEq, Value.string.injEq, Value.bool.injEq, and_true, bs_inj] at k4 h3
    obtain ⟨e1, e2, e3⟩ := k4
    obtain ⟨d1, d2, d3⟩ := h3
    have t1 : (s ++ p).take (i + 1) = s.take (i + 1) := List.take_append_of_le_length (by omega)
    have t2 : (s ++ p).drop (i + 1) = s.drop (i + 1) ++ p := List.drop_append_of_le_length (by omega)
    rw [d1, d2, ← t1, ← t2, e1, e2]
    rw [e3]
  · simp only [sv, Value.tuple.injEq, Array.mk.injEq, List.cons.injEq, Value.string.injEq, Value.bool.injEq, and_true] at h3
    rw [h] at h3
    exact absurd h3.2.2 (by simp)
open Classical in
noncomputable def parF (s : List UInt8) : Hd × Int := if h : ∃ y : Hd, rightH y ∧ y.hs.length = 32 ∧ s = mText y then (h.choose, 0) else (zH, if 160 < s.length then 12 else 6)
theorem parF_of {s : List UInt8} {v : Value} (h : PM s v) : v = .tuple #[hv (parF s).1, .int .i64 (parF s).2] := by
  unfold parF
  split
  · rename_i q
    exact h.1 _ q.choose_spec.1 q.choose_spec.2.1 q.choose_spec.2.2
  · rename_i q
    exact h.2 fun y h1 h2 h3 => q ⟨y, h1, h2, h3⟩
theorem parF_len (s : List UInt8) : (parF s).1.hs.length = 32 := by
  unfold parF
  split
  · rename_i q; exact q.choose_spec.2.1
  · exact z32_len
theorem parF_ok {s : List UInt8} (h : (parF s).2 = 0) : rightH (parF s).1 ∧ s = mText (parF s).1 := by
  unfold parF at h ⊢
  split at h
  · rename_i q
    rw [dif_pos q]
    exact ⟨q.choose_spec.1, q.choose_spec.2.2⟩
  · simp only at h
    split at h <;> simp at h
theorem parF_text {y : Hd} (h1 : rightH y) (h2 : y.hs.length = 32) : parF (mText y) = (y, 0) := by
  have q : ∃ x : Hd, rightH x ∧ x.hs.length = 32 ∧ mText y = mText x := ⟨y, h1, h2, rfl⟩
  unfold parF
  rw [dif_pos q, mText_inj q.choose_spec.2.1 h2 q.choose_spec.1 h1 q.choose_spec.2.2.symm]
theorem parF_long {s : List UInt8} (h : 160 < s.length) : parF s = (zH, 12) := by
  unfold parF
  split
  · rename_i q
    have := mText_len q.choose_spec.2.1 q.choose_spec.1
    rw [← q.choose_spec.2.2] at this
    omega
  · simp [h]
structure It where
  room : Int
  fa : Int
  fb : Int
  fc : Int
  text : List UInt8
  hd : Hd
  bg : Bool
  e : Int
def spoilF (x : It) (T : List UInt8) (e : Int) : (It × List UInt8) × (List UInt8 × Int) := (({ x with e := e }, T), ([], e))
def takeFI (x : It) (T p : List UInt8) : (It × List UInt8) × (List UInt8 × Int) := if x.hd.n - (T.length : Int) < (p.length : Int) then spoilF x T 12 else ((x, T ++ p), (p, 0))
open Classical in
noncomputable def beginF (x : It) (t : List UInt8) : It × Int := if (parF t).2 ≠ 0 then (x, (parF t).2) else if x.room < (parF t).1.n then (x, 12) else if vlt ⟨(parF t).1.a, (parF t).1.b, (parF t).1.c⟩ ⟨x.fa, x.fb, x.fc⟩ then (x, 11) else ({ x with hd := (parF t).1, bg := true }, 0)
noncomputable def feedF (x : It) (T p : List UInt8) : (It × List UInt8) × (List UInt8 × Int) :=
  if x.e ≠ 0 then ((x, T), ([], x.e)) else if x.bg then takeFI x T p else
    if (splF (x.text ++ p)).2.2 = false then (if 160 < (splF (x.text ++ p)).1.length then spoilF { x with text := (splF (x.text ++ p)).1 } T 12 else (({ x with text := (splF (x.text ++ p)).1 }, T), ([], 0)))
    else if (beginF { x with text := (splF (x.text ++ p)).1 } (splF (x.text ++ p)).1).2 ≠ 0 then spoilF (beginF { x with text := (splF (x.text ++ p)).1 } (splF (x.text ++ p)).1).1 T (beginF { x with text := (splF (x.text ++ p)).1 } (splF (x.text ++ p)).1).2
    else takeFI (beginF { x with text := (splF (x.text ++ p)).1 } (splF (x.text ++ p)).1).1 T (splF (x.text ++ p)).2.1
def it0 (room fa fb fc : Int) : It := ⟨room, fa, fb, fc, [], zH, false, 0⟩
open Classical in
noncomputable def finF (x : It) (T : List UInt8) : Hd × Int := if x.e ≠ 0 then (zH, x.e) else if x.bg = false ∨ (T.length : Int) < x.hd.n then (zH, 13) else if shaB T ≠ x.hd.hs then (zH, 7) else (x.hd, 0)
noncomputable def allF (room fa fb fc : Int) (S : List UInt8) : (It × List UInt8) × (List UInt8 × Int) := feedF (it0 room fa fb fc) [] S
theorem feed_text (room fa fb fc : Int) (t p : List UInt8) : feedF { it0 room fa fb fc with text := t } [] p = allF room fa fb fc (t ++ p) := by
  unfold allF feedF
  rfl
theorem splF_grow {S : List UInt8} (h : (splF S).2.2 = false) (p : List UInt8) : S.length ≤ (splF (S ++ p)).1.length := by
  have hv := splF_V S
  have hno : ∀ j, ¬ spP S j := by
    rcases hv with ⟨i, _, _, h3⟩ | ⟨h1, _⟩
    · simp only [sv, Value.tuple.injEq, Array.mk.injEq, List.cons.injEq, Value.string.injEq, Value.bool.injEq, and_true] at h3
      rw [h] at h3
      exact absurd h3.2.2 (by simp)
    · exact h1
  rcases splF_V (S ++ p) with ⟨i, h1, _, h3⟩ | ⟨_, h3⟩
  · simp only [sv, Value.tuple.injEq, Array.mk.injEq, List.cons.injEq, Value.string.injEq, Value.bool.injEq, and_true, bs_inj] at h3
    have hi := getI h1.1
    have hge : S.length ≤ i := by
      by_cases q : S.length ≤ i
      · exact q
      · have hg : ∀ j, j < S.length → (S ++ p)[j]? = S[j]? := fun j hj => List.getElem?_append_left hj
        exact absurd ⟨by rw [← hg i (by omega)]; exact h1.1, h1.2.imp id fun q2 => by rw [← hg _ (by omega)]; exact q2⟩ (hno i)
    rw [h3.1, List.length_take]
    omega
  · simp only [sv, Value.tuple.injEq, Array.mk.injEq, List.cons.injEq, Value.string.injEq, Value.bool.injEq, and_true, bs_inj] at h3
    rw [h3.1, List.length_append]; omega
theorem begin_ok {x : It} {t : List UInt8} (h : (beginF x t).2 = 0) : beginF x t = ({ x with hd := (parF t).1, bg := true }, 0) ∧ (parF t).2 = 0 ∧ (parF t).1.n ≤ x.room ∧ ¬ vlt ⟨(parF t).1.a, (parF t).1.b, (parF t).1.c⟩ ⟨x.fa, x.fb, x.fc⟩ := by
  unfold beginF at h ⊢
  split at h
  · rename_i q; exact absurd h q
  · rename_i q1
    rw [if_neg q1]
    split at h
    · simp at h
    · rename_i q2
      rw [if_neg q2]
      split at h
      · simp at h
      · rename_i q3
        rw [if_neg q3]
        exact ⟨rfl, Classical.not_not.1 q1, by omega, q3⟩
theorem begin_err {x : It} {t : List UInt8} (h : (beginF x t).2 ≠ 0) : (beginF x t).1 = x := by
  unfold beginF at h ⊢
  split
  · rfl
  · split
    · rfl
    · split
      · rfl
      · rename_i q1 q2 q3
        rw [if_neg q1, if_neg q2, if_neg q3] at h
        exact absurd rfl h
theorem feed_next (room fa fb fc : Int) (S p : List UInt8) (h : (allF room fa fb fc S).2.2 = 0) :
    (feedF (allF room fa fb fc S).1.1 (allF room fa fb fc S).1.2 p).2.2 = (allF room fa fb fc (S ++ p)).2.2 ∧
    (feedF (allF room fa fb fc S).1.1 (allF room fa fb fc S).1.2 p).1.1.hd = (allF room fa fb fc (S ++ p)).1.1.hd ∧
    (feedF (allF room fa fb fc S).1.1 (allF room fa fb fc S).1.2 p).1.1.bg = (allF room fa fb fc (S ++ p)).1.1.bg ∧
    ((allF room fa fb fc (S ++ p)).2.2 = 0 → (feedF (allF room fa fb fc S).1.1 (allF room fa fb fc S).1.2 p).1 = (allF room fa fb fc (S ++ p)).1 ∧
      (allF room fa fb fc S).2.1 ++ (feedF (allF room fa fb fc S).1.1 (allF room fa fb fc S).1.2 p).2.1 = (allF room fa fb fc (S ++ p)).2.1) := by
  cases hs : (splF S).2.2 with
  | false =>
    have hS := splF_no hs
    have h160 : ¬ 160 < S.length := fun q => by
      simp [allF, feedF, it0, hS, q, spoilF] at h
    have e1 : allF room fa fb fc S = (({ it0 room fa fb fc with text := S }, []), ([], 0)) := by
      simp [allF, feedF, it0, hS, h160]
    rw [e1]
    dsimp only
    rw [feed_text]
    exact ⟨rfl, rfl, rfl, fun _ => ⟨rfl, rfl⟩⟩
  | true =>
    have hm := splF_more hs p
    rcases hsp : splF S with ⟨t, r, en⟩
    rw [hsp] at hs hm
    dsimp only at hs hm
    subst hs
    by_cases hb : (beginF { it0 room fa fb fc with text := t } t).2 = 0
    · obtain ⟨hb1, hb2, hb3, hb4⟩ := begin_ok hb
      have hb' : (beginF { it0 room fa fb fc with text := t } t).1 = { it0 room fa fb fc with text := t, hd := (parF t).1, bg := true } := by rw [hb1]
      have eS : allF room fa fb fc S = takeFI { it0 room fa fb fc with text := t, hd := (parF t).1, bg := true } [] r := by
        have : feedF (it0 room fa fb fc) [] S = takeFI (beginF { it0 room fa fb fc with text := t } t).1 [] r := by
          unfold feedF
          rw [if_neg (by simp [it0]), if_neg (by simp [it0])]
          simp only [it0, List.nil_append, hsp]
          rw [if_neg (by simp), if_neg (by simpa [it0] using hb)]
        rw [← hb']; exact this
      have eSp : allF room fa fb fc (S ++ p) = takeFI { it0 room fa fb fc with text := t, hd := (parF t).1, bg := true } [] (r ++ p) := by
        have : feedF (it0 room fa fb fc) [] (S ++ p) = takeFI (beginF { it0 room fa fb fc with text := t } t).1 [] (r ++ p) := by
          unfold feedF
          rw [if_neg (by simp [it0]), if_neg (by simp [it0])]
          simp only [it0, List.nil_append, hm]
          rw [if_neg (by simp), if_neg (by simpa [it0] using hb)]
        rw [← hb']; exact this
      rw [eS] at h ⊢
      rw [eSp]
      have hr : ¬ (parF t).1.n - ((0 : Nat) : Int) < (r.length : Int) := fun q => by
        unfold takeFI at h
        rw [if_pos (by simpa using q)] at h
        simp [spoilF] at h
      have e1 : takeFI { it0 room fa fb fc with text := t, hd := (parF t).1, bg := true } [] r = (({ it0 room fa fb fc with text := t, hd := (parF t).1, bg := true }, r), (r, 0)) := by
        unfold takeFI
        rw [if_neg (by simpa using hr)]
        rfl
      rw [e1]
      dsimp only
      have e2 : feedF { it0 room fa fb fc with text := t, hd := (parF t).1, bg := true } r p = takeFI { it0 room fa fb fc with text := t, hd := (parF t).1, bg := true } r p := by
        unfold feedF
        rw [if_neg (by simp [it0]), if_pos rfl]
      rw [e2]
      unfold takeFI
      dsimp only
      by_cases hq : (parF t).1.n - (r.length : Int) < (p.length : Int)
      · rw [if_pos hq, if_pos (by simp; omega)]
        exact ⟨rfl, rfl, rfl, fun q => by simp [spoilF] at q⟩
      · rw [if_neg hq, if_neg (by simp; omega)]
        exact ⟨rfl, rfl, rfl, fun _ => ⟨rfl, rfl⟩⟩
    · exfalso
      have : (allF room fa fb fc S).2.2 = (beginF { it0 room fa fb fc with text := t } t).2 := by
        unfold allF feedF
        rw [if_neg (by simp [it0]), if_neg (by simp [it0])]
        simp only [it0, List.nil_append, hsp] at hb ⊢
        rw [if_neg (by simp), if_pos hb]
        rfl
      exact hb (by rw [← this]; exact h)
theorem feed_err (room fa fb fc : Int) (S p : List UInt8) (h : (allF room fa fb fc S).2.2 ≠ 0) :
    (allF room fa fb fc (S ++ p)).2.2 = (allF room fa fb fc S).2.2 ∧ (allF room fa fb fc (S ++ p)).1.1.hd = (allF room fa fb fc S).1.1.hd ∧ (allF room fa fb fc (S ++ p)).1.1.bg = (allF room fa fb fc S).1.1.bg := by
  have gen : ∀ q : List UInt8, (splF q).2.2 = false → allF room fa fb fc q = if 160 < q.length then spoilF { it0 room fa fb fc with text := q } [] 12 else (({ it0 room fa fb fc with text := q }, []), ([], 0)) := fun q hq => by
    have hS := splF_no hq
    unfold allF feedF
    simp [it0, hS]
  have gen2 : ∀ q t r, splF q = (t, r, true) → allF room fa fb fc q = if (beginF { it0 room fa fb fc with text := t } t).2 ≠ 0 then spoilF { it0 room fa fb fc with text := t } [] (beginF { it0 room fa fb fc with text := t } t).2 else takeFI (beginF { it0 room fa fb fc with text := t } t).1 [] r := fun q t r hq => by
    unfold allF feedF
    by_cases hb : (beginF { it0 room fa fb fc with text := t } t).2 = 0
    · simp [it0] at hb
      simp [it0, hq, hb]
    · have he := begin_err hb
      simp [it0] at hb he
      simp [it0, hq, hb, he]
  cases hs : (splF S).2.2 with
  | false =>
    rw [gen S hs] at h ⊢
    by_cases h160 : 160 < S.length
    · rw [if_pos h160] at h ⊢
      have hg := splF_grow hs p
      cases hq : (splF (S ++ p)).2.2 with
      | false =>
        rw [gen _ hq, if_pos (by rw [List.length_append]; omega)]
        exact ⟨rfl, rfl, rfl⟩
      | true =>
        rcases hsp : splF (S ++ p) with ⟨t, r, en⟩
        rw [hsp] at hq hg
        dsimp only at hq hg
        subst hq
        have hpl : parF t = (zH, 12) := parF_long (by omega)
        have hb : beginF { it0 room fa fb fc with text := t } t = ({ it0 room fa fb fc with text := t }, 12) := by
          unfold beginF
          rw [if_pos (by rw [hpl]; simp), hpl]
        rw [gen2 _ t r hsp, hb, if_pos (by simp)]
        exact ⟨rfl, rfl, rfl⟩
    · rw [if_neg h160] at h
      exact absurd rfl h
  | true =>
    have hm := splF_more hs p
    rcases hsp : splF S with ⟨t, r, en⟩
    rw [hsp] at hs hm
    dsimp only at hs hm
    subst hs
    rw [gen2 _ _ _ hsp] at h ⊢
    rw [gen2 _ _ _ hm]
    by_cases hb : (beginF { it0 room fa fb fc with text := t } t).2 ≠ 0
    · rw [if_pos hb, if_pos hb]
      exact ⟨rfl, rfl, rfl⟩
    · rw [if_neg hb] at h ⊢
      rw [if_neg hb]
      unfold takeFI at h ⊢
      by_cases hq : (beginF { it0 room fa fb fc with text := t } t).1.hd.n - (([] : List UInt8).length : Int) < (r.length : Int)
      · rw [if_pos hq, if_pos (by rw [List.length_append]; omega)]
        exact ⟨rfl, rfl, rfl⟩
      · rw [if_neg hq] at h
        exact absurd rfl h

theorem digK_keep {H H' : Heap} {b : Nat} {nm : Option Nat} {T : List UInt8} {k : Nat} (d : DigK H b nm T k) (hk : ∀ y ob, H.m y = some ob → (y = b ∨ nm = some y) → H'.m y = some ob) : DigK H' b nm T k := by
  obtain ⟨rv, hb, hr, hl⟩ := d
  refine ⟨rv, ?_, ?_, hl⟩
  · have := hk b _ (m_of_cells hb) (.inl rfl)
    unfold Heap.cellsOf
    rw [this]
  · rcases hr with q | ⟨x, o, cap, c, e, h2, h3, h4⟩
    · exact .inl q
    · refine .inr ⟨x, o, cap, c, e, h2, ?_, h4⟩
      have := hk x _ (m_of_cells h3) (.inr e)
      unfold Heap.cellsOf
      rw [this]
theorem digK_lt {H : Heap} (hc : H.Closed) {b : Nat} {nm : Option Nat} {T : List UInt8} {k : Nat} (d : DigK H b nm T k) : b < H.n ∧ ∀ y, nm = some y → y < H.n := by
  obtain ⟨rv, hb, hr, hl⟩ := d
  refine ⟨cellsOf_lt hc hb, fun y e => ?_⟩
  rcases hr with q | ⟨x, o, cap, c, e', h2, h3, h4⟩
  · rw [q.1] at e; cases e
  · rw [e'] at e; cases e
    exact cellsOf_lt hc h3
theorem join0_ok (v : Value) (L : List (List UInt8)) (h : Heap) (hs : SlJ h v L) (hL : L ≠ []) (hLn : L.length ≤ 1000000) (hpos : 0 < sumL L ∨ L.length = 1) (hb0 : sumL L ≤ 1000000) :
    ACalls Tryz.prog 28 [v, .string (bs [])] h fun v h' => v = .string (bs (joinB [] L)) ∧ h' = h := by
  refine ACalls.same .string (acalls_of mix Tryz.func28 k28 n28 (by simp) fun hcl hb => ?_)
  obtain ⟨b, o, cap, cs, m, e, rfl, hcell, hle, hcap, hsz, hget⟩ := hs
  have hbn := cellsOf_lt hcl hcell
  have hll : 1 ≤ L.length := by cases L with | nil => exact absurd rfl hL | cons x y => simp
  by_cases h1 : L.length = 1
  · obtain ⟨a, rfl⟩ := List.length_eq_one_iff.1 h1
    have hg := hget 0 (by simp)
    simp at hg
    have hi0 : aidx (.int .i64 0) 1 = some 0 := rfl
    have hlt : o < cs.length := by simp at hsz; omega
    simp [c28, hi0, hcell, apart, hg, sv, joinB]
    exact Heap.Ext.refl h
  · obtain ⟨a, r, rfl⟩ : ∃ a r, L = a :: r := by cases L with | nil => exact absurd rfl hL | cons x y => exact ⟨x, y, rfl⟩
    obtain ⟨k, hk⟩ : ∃ k, (a :: r).length = k := ⟨_, rfl⟩
    rw [hk] at hcap hsz h1 hll hLn hb ⊢
    have hkr : k = r.length + 1 := by rw [← hk]; rfl
    have hk0 : ¬ (k : Int) = 0 := by omega
    have hk1 : ¬ (k : Int) = 1 := by omega
    have hkk0 : ¬ k = 0 := by omega
    have w1' : IntKind.i64.wrap ((k : Int) - 1) = ((k - 1 : Nat) : Int) := by rw [IntWalk.i64_in _ (by omega)]; omega
    have hk10 : ¬ ((k - 1 : Nat) : Int) = 0 := by omega
    have hk10' : ¬ (k - 1 : Nat) = 0 := by omega
    simp only [c28, s_seq, s_ops]
    simp [bs_size, bs_lit, hk0, hk1, hkk0, h1, w1', -Int.natCast_add, -Int.natCast_mul, -Int.natCast_ediv]
    refine awp_loop_of (α := Nat) (fun i => i ≤ k)
      (fun i => [(0, .slice (some ⟨b, o, none⟩) k cap), (1, .string (bs [])), (39, .slice (some ⟨b, o, none⟩) k cap), (40, .int .i64 k), (41, .int .i64 i), (5, .int .i64 ((sumL ((a :: r).take i) : Nat) : Int))]) (fun _ => h) (fun i => k - i) 0
      (Nat.zero_le _) (Heap.Sub.refl hcl) (by simp [sumL, -Int.natCast_mul]; exact ⟨vb_slice hbn, .string, vb_slice hbn, .int, .int⟩) ?_
    intro i hi
    by_cases hik : i < k
    · have hik' : (i : Int) < k := by omega
      have hg := hget i (by omega)
      have hlt : o + i < cs.length := by omega
      have hg' : cs[o + i] = sv (a :: r)[i] := by rw [List.getElem?_eq_getElem hlt] at hg; exact Option.some.inj hg
      have hst := sumL_take (a :: r) i (by omega)
      have hsle := sumL_le (a :: r) (i + 1)
      have w2 : IntKind.i64.wrap ((9223372036854775807 : Int) - ((sumL ((a :: r).take i) : Nat) : Int)) = ((9223372036854775807 - (sumL ((a :: r).take i)) : Nat) : Int) := by rw [IntWalk.i64_in _ (by omega)]; omega
      have hng : ¬ ((9223372036854775807 - (sumL ((a :: r).take i)) : Nat) : Int) < ((a :: r)[i].length : Int) := by omega
      have w3 : IntKind.i64.wrap (((sumL ((a :: r).take i) : Nat) : Int) + ((a :: r)[i].length : Int)) = ((sumL ((a :: r).take (i + 1)) : Nat) : Int) := by rw [IntWalk.i64_in _ (by omega)]; omega
      have w4 : IntKind.i64.wrap ((i : Int) + 1) = ((i + 1 : Nat) : Int) := w1 i (by omega)
      generalize (a :: r)[i] = x at *
      generalize sumL ((a :: r).take i) = S1 at *
      generalize hS2 : sumL ((a :: r).take (i + 1)) = S2 at *
      simp [c28_1, hik', aidx_of hik, hcell, apart, hlt, hg', sv, bs_size, w2, hng, w3, w4, -Int.natCast_add, -Int.natCast_mul]
      exact ⟨i + 1, by omega, by omega, Heap.Sub.refl hcl, vb_slice hbn, .string, vb_slice hbn, .int, ⟨rfl, .int⟩, ⟨by rw [hS2], .int⟩⟩
    · have hie : i = k := by omega
      subst hie
      have hta : (a :: r).take i = a :: r := List.take_of_length_le (by omega)
      rw [hta]
      have hfl := flatM_len [] r
      have hsa : sumL (a :: r) = a.length + sumL r := by simp [sumL]
      have hr1 : i - 1 = r.length := by omega
      have htot : sumL (a :: r) = (joinB [] (a :: r)).length := by
        show _ = (a ++ r.flatMap fun x => [] ++ x).length
        rw [List.length_append, hfl, hsa]; simp
      rw [htot]
      have hJ : (joinB [] (a :: r)).length ≤ 1000000 := by omega
      have hJ0 : 0 < (joinB [] (a :: r)).length := by
        rw [← htot]
        rcases hpos with q | q
        · exact q
        · omega
      generalize hnJ : (joinB [] (a :: r)).length = n at *
      have hbel2 : ∀ m, ∀ z ∈ ([.pointer none, .slice none 0 0] : List Value), VBelow m z := fun m z hz => by
        simp at hz
        rcases hz with rfl | rfl
        · exact .pnil
        · exact .snil
      have hc1 : (h.push (.cells [.pointer none, .slice none 0 0] (.exT BT) 1)).Closed := closed_push hcl (hbel2 _)
      have hx1 := cellsOf_new h [.pointer none, .slice none 0 0] (.exT BT) 1
      have k1 : ∀ y, y < h.n → (h.push (.cells [.pointer none, .slice none 0 0] (.exT BT) 1)).m y = h.m y := fun y hy => by rw [push_m, if_neg (by omega)]
      have n1 : (h.push (.cells [.pointer none, .slice none 0 0] (.exT BT) 1)).n = h.n + 1 := rfl
      simp [c28_1]
      generalize h.push (.cells [.pointer none, .slice none 0 0] (.exT BT) 1) = H1 at *
      refine (growB_ok h.n n H1 hx1 hJ0 hJ).mono' ?_
      rintro _ H2 hc2 _ ⟨rfl, hG2, k2, n2⟩
      have hcell2 : H2.cellsOf b = some (cs, m, e) := by
        unfold Heap.cellsOf at hcell ⊢
        rw [k2 b (by omega) (by omega), k1 b hbn]; exact hcell
      have hg0 := hget 0 (by omega)
      have hlt0 : o < cs.length := by omega
      have hg0' : cs[o] = .string (bs a) := by rw [Nat.add_zero, List.getElem?_eq_getElem hlt0] at hg0; exact Option.some.inj hg0
      have hi0 : aidx (.int .i64 0) i = some 0 := aidx_of (i := 0) (by omega)
      simp [hi0, hcell2, apart, hlt0, hg0']
      have hale : a.length ≤ n := by rw [← hnJ]; show a.length ≤ (a ++ _).length; rw [List.length_append]; omega
      refine (wstr_ok h.n H1.n n [] a H2 hG2 (by simpa using hale) hJ).mono' ?_
      rintro _ H3 hc3 _ ⟨hG3, k3, n3⟩
      have k3' : ∀ y, y < h.n → H3.m y = h.m y := fun y hy => by rw [k3 y (by omega) (by omega), k2 y (by omega) (by omega), k1 y hy]
      have hcell3 : H3.cellsOf b = some (cs, m, e) := by
        unfold Heap.cellsOf at hcell ⊢
        rw [k3' b hbn]; exact hcell
      have bl : abounds i cap (some (.int .i64 1)) none none = some (1, i, cap) := abounds_lo (l := 1) (by omega) hcap
      simp [bl, hcell3]
      rw [if_pos hle]
      simp
      rw [List.nil_append] at hG3
      refine awp_loop_of (α := JS) (fun z => z.i ≤ r.length ∧ GB z.H h.n H1.n n (a ++ (r.take z.i).flatMap fun x => [] ++ x) ∧ z.H.Closed ∧ (∀ y, y < h.n → z.H.m y = h.m y) ∧ z.H.n = H3.n)
        (fun z => [(1, .string (bs [])), (8, .pointer (some ⟨h.n, 0, none⟩)), (63, .slice (some ⟨b, o + 1, none⟩) (i - 1) (cap - 1)), (64, .int .i64 (i - 1 : Nat)), (65, .int .i64 z.i)]) (fun z => z.H) (fun z => r.length - z.i) ⟨0, H3⟩
        ⟨Nat.zero_le _, by simpa using hG3, hc3, k3', rfl⟩ ⟨by show h.n ≤ H3.n; omega, Nat.le_refl _, fun _ _ e => e, hc3⟩ (by simp; exact ⟨.string, .ptr (by show h.n < H3.n; omega), vb_slice (by omega), .int, .int⟩) ?_
      rintro ⟨j, H⟩ ⟨hj, hG, hcH, kH, nH⟩
      dsimp only at hj hG hcH kH nH ⊢
      have hcellH : H.cellsOf b = some (cs, m, e) := by
        unfold Heap.cellsOf at hcell ⊢
        rw [kH b hbn]; exact hcell
      by_cases hjr : j < r.length
      · have hjr' : (j : Int) < ((i - 1 : Nat) : Int) := by omega
        have hg := hget (j + 1) (by omega)
        have hlt : o + 1 + j < cs.length := by omega
        have hg' : cs[o + 1 + j] = .string (bs r[j]) := by
          have : cs[o + (j + 1)]? = some (sv r[j]) := hg
          rw [show o + (j + 1) = o + 1 + j by omega, List.getElem?_eq_getElem hlt] at this
          exact Option.some.inj this
        have hix : aidx (.int .i64 (j : Int)) (i - 1) = some j := aidx_of (by omega)
        have w4 : IntKind.i64.wrap ((j : Int) + 1) = ((j + 1 : Nat) : Int) := w1 j (by omega)
        have hnx : (r.take (j + 1)).flatMap (fun x => [] ++ x) = (r.take j).flatMap (fun x => [] ++ x) ++ [] ++ r[j] := by
          rw [List.take_succ_eq_append_getElem hjr, List.flatMap_append]
          simp
        have hjn : (a ++ (r.take (j + 1)).flatMap fun x => [] ++ x).length ≤ n := by
          have h5 := flatM_len [] (r.take (j + 1))
          have h6 := sumL_le r (j + 1)
          rw [List.length_append, h5]
          simp only [List.length_nil, Nat.zero_mul, Nat.zero_add]
          omega
        rw [hnx] at hjn
        generalize hX : (r.take j).flatMap (fun x => [] ++ x) = X at *
        generalize r[j] = y at *
        simp only [List.length_append] at hjn
        simp [c28_3, hjr', hix, hcellH, apart, hlt, hg']
        refine (wstr_ok h.n H1.n n (a ++ X) [] H hG (by rw [List.length_append]; omega) hJ).mono' ?_
        rintro _ H4 hc4 _ ⟨hG4, k4, n4⟩
        simp
        refine (wstr_ok h.n H1.n n (a ++ X ++ []) y H4 hG4 (by simp only [List.length_append]; omega) hJ).mono' ?_
        rintro _ H5 hc5 _ ⟨hG5, k5, n5⟩
        simp [w4, -Int.natCast_add]
        refine ⟨⟨j + 1, H5⟩, by show r.length - (j + 1) < r.length - j; omega, ⟨by show j + 1 ≤ r.length; omega, by show GB H5 h.n H1.n n (a ++ (r.take (j + 1)).flatten); rw [show (r.take (j + 1)).flatten = (r.take (j + 1)).flatMap fun x => [] ++ x by simp, hnx]; simpa using hG5, hc5, fun z hz => by rw [k5 z (by omega) (by omega), k4 z (by omega) (by omega), kH z hz], by show H5.n = H3.n; omega⟩,
          ⟨by show h.n ≤ H5.n; omega, Nat.le_refl _, fun _ _ e => e, hc5⟩, .string, .ptr (by show h.n < H5.n; omega), vb_slice (by show b < H5.n; omega), .int, rfl, .int⟩
      · have hje : j = r.length := by omega
        subst hje
        rw [List.take_of_length_le (Nat.le_refl _)] at hG
        have hJe : a ++ (r.flatMap fun x => [] ++ x) = joinB [] (a :: r) := rfl
        rw [hJe] at hG
        have hrn : ¬ ((r.length : Nat) : Int) < ((i - 1 : Nat) : Int) := by omega
        simp [c28_3, hrn]
        refine (bstr_ok h.n H1.n n _ H hG (fun q => by rw [q] at hnJ; simp at hnJ; omega) hJ).mono' ?_
        rintro _ H6 hc6 _ ⟨rfl, n6, k6⟩
        simp
        exact ⟨by omega, fun z ob ez => by rw [k6 z (by have := (hcl z ob ez).1; omega), kH z (hcl z ob ez).1]; exact ez⟩

def c30 : AC := .seq (.ops [⟨some 4,none,.mv (.const (.string ⟨⟨[]⟩⟩))⟩,⟨some 5,none,.mv (.const (.int .i64 0))⟩]) (.seq (.ops [⟨some 6,none,.mv (.tmp 0)⟩,⟨some 7,none,.mv (.tmp 1)⟩,⟨some 8,none,.nilck (.tmp 6)⟩,⟨some 9,none,.fAddr 43 (.tmp 8)⟩,⟨none,none,.store 1 (.tmp 9) (.tmp 7)⟩]) (.seq (.ops [⟨some 10,none,.mv (.tmp 1)⟩,⟨some 4,none,.mv (.const (.string ⟨⟨[]⟩⟩))⟩,⟨some 5,none,.mv (.tmp 10)⟩]) .ret))
theorem k30 : compF Tryz.prog Tryz.f30 = some (c30, [4, 5]) := by kernel_rfl
theorem n30 : Tryz.f30.ntmps = 11 := by kernel_rfl
def c36 : AC := .seq (.ops [⟨some 2,none,.mv (.const (.int .i64 0))⟩]) (.seq (.seq (.ops [⟨some 3,none,.mv (.tmp 0)⟩,⟨some 4,none,.eqv false .ptr (.tmp 3) (.const (.pointer none))⟩]) (.cond (.tmp 4) (.seq (.ops [⟨some 2,none,.mv (.const (.int .i64 0))⟩]) .ret) .skip)) (.seq (.ops [⟨some 5,none,.mv (.tmp 0)⟩,⟨some 6,none,.nilck (.tmp 5)⟩,⟨some 7,none,.fAddr 9 (.tmp 6)⟩,⟨some 8,none,.load none (.tmp 7)⟩,⟨some 2,none,.mv (.tmp 8)⟩]) .ret))
theorem k36 : compF Tryz.prog Tryz.f36 = some (c36, [2]) := by kernel_rfl
theorem n36 : Tryz.f36.ntmps = 9 := by kernel_rfl
def c12 : AC := .seq (.ops [⟨some 2,none,.mv (.const (.int .i64 0))⟩]) (.seq (.seq (.ops [⟨some 3,none,.mv (.tmp 0)⟩,⟨some 4,none,.eqv false .ptr (.tmp 3) (.const (.pointer none))⟩]) (.cond (.tmp 4) (.seq (.ops [⟨some 2,none,.mv (.const (.int .i64 0))⟩]) .ret) .skip)) (.seq (.ops [⟨some 5,none,.mv (.tmp 0)⟩,⟨some 6,none,.nilck (.tmp 5)⟩,⟨some 7,none,.fAddr 0 (.tmp 6)⟩,⟨some 8,none,.load none (.tmp 7)⟩,⟨some 9,none,.call 36 [.tmp 8]⟩,⟨some 2,none,.mv (.tmp 9)⟩]) .ret))
theorem k12 : compF Tryz.prog Tryz.f12 = some (c12, [2]) := by kernel_rfl
theorem n12 : Tryz.f12.ntmps = 10 := by kernel_rfl
def c13 : AC := .seq (.ops [⟨some 2,none,.alloc z36⟩,⟨some 3,none,.mv (.const (.bool false))⟩]) (.seq (.seq (.ops [⟨some 4,none,.mv (.tmp 0)⟩,⟨some 5,none,.eqv false .ptr (.tmp 4) (.const (.pointer none))⟩,⟨some 6,none,.mv (.tmp 5)⟩,⟨some 7,some (6,false),.mv (.tmp 0)⟩,⟨some 8,some (6,false),.nilck (.tmp 7)⟩,⟨some 9,some (6,false),.fAddr 42 (.tmp 8)⟩,⟨some 10,some (6,false),.load none (.tmp 9)⟩,⟨some 11,some (6,false),.un .not (.tmp 10)⟩,⟨some 12,none,.pick (.tmp 6) (.const (.bool true)) (.tmp 11)⟩]) (.cond (.tmp 12) (.seq (.ops [⟨some 13,none,.build z36 []⟩,⟨none,none,.store 36 (.tmp 2) (.tmp 13)⟩,⟨some 3,none,.mv (.const (.bool false))⟩]) .ret) .skip)) (.seq (.ops [⟨some 14,none,.mv (.tmp 0)⟩,⟨some 15,none,.nilck (.tmp 14)⟩,⟨some 16,none,.fAddr 6 (.tmp 15)⟩,⟨some 17,none,.load (some 36) (.tmp 16)⟩,⟨none,none,.store 36 (.tmp 2) (.tmp 17)⟩,⟨some 3,none,.mv (.const (.bool true))⟩]) .ret))
theorem k13 : compR Tryz.prog Tryz.f13 = some (c13, [.c 2 (some 36), .t 3]) := by kernel_rfl
theorem n13 : Tryz.f13.ntmps = 18 := by kernel_rfl
variable [Nonempty GM]
def icA (b : Nat) (x : It) : List Value := [.pointer (some ⟨b, 0, none⟩), .int .i64 x.room, .int .i64 x.fa, .int .i64 x.fb, .int .i64 x.fc, .string (bs x.text)]
def ic (b : Nat) (x : It) : List Value := icA b x ++ (hc x.hd ++ [.bool x.bg, .int .i64 x.e])
theorem ic_len {b : Nat} {x : It} (h : x.hd.hs.length = 32) : (ic b x).length = 44 := by
  simp [ic, icA, hc_len h]
theorem ic43 {b : Nat} {x : It} (h : x.hd.hs.length = 32) : (ic b x)[43]? = some (.int .i64 x.e) := by
  unfold ic
  rw [List.getElem?_append_right (by simp [icA]), List.getElem?_append_right (by simp [icA, hc_len h])]
  simp [icA, hc_len h]
theorem ic42 {b : Nat} {x : It} (h : x.hd.hs.length = 32) : (ic b x)[42]? = some (.bool x.bg) := by
  unfold ic
  rw [List.getElem?_append_right (by simp [icA]), List.getElem?_append_right (by simp [icA, hc_len h])]
  simp [icA, hc_len h]
theorem ic0 {b : Nat} {x : It} : (ic b x)[0]? = some (.pointer (some ⟨b, 0, none⟩)) := rfl
theorem ic1 {b : Nat} {x : It} : (ic b x)[1]? = some (.int .i64 x.room) := rfl
theorem ic5 {b : Nat} {x : It} : (ic b x)[5]? = some (.string (bs x.text)) := rfl
theorem ic9 {b : Nat} {x : It} : (ic b x)[9]? = some (.int .i64 x.hd.n) := rfl
theorem ic2 {b : Nat} {x : It} (h : x.hd.hs.length = 32) : acut (ic b x) 2 3 = some (iv x.fa x.fb x.fc) := by
  unfold acut; rw [if_pos (by rw [ic_len h]; omega)]; rfl
theorem ic6 {b : Nat} {x : It} (h : x.hd.hs.length = 32) : acut (ic b x) 6 36 = some (hc x.hd) := by
  unfold acut; rw [if_pos (by rw [ic_len h]; omega)]
  have : (ic b x).drop 6 = hc x.hd ++ [.bool x.bg, .int .i64 x.e] := rfl
  rw [this, List.take_append_of_le_length (by rw [hc_len h]; omega), List.take_of_length_le (by rw [hc_len h]; omega)]
theorem ic10 {b : Nat} {x : It} (h : x.hd.hs.length = 32) : acut (ic b x) 10 32 = some (ubs x.hd.hs) := by
  unfold acut; rw [if_pos (by rw [ic_len h]; omega)]
  have : (ic b x).drop 10 = ubs x.hd.hs ++ [.bool x.bg, .int .i64 x.e] := rfl
  rw [this, List.take_append_of_le_length (by rw [ubs_len, h]; omega), List.take_of_length_le (by rw [ubs_len, h]; omega)]
theorem icp5 {b : Nat} {x : It} (t : List UInt8) : aput (ic b x) 5 [.string (bs t)] = ic b { x with text := t } := rfl
theorem aput_right (l r v : List Value) (k : Nat) : aput (l ++ r) (l.length + k) v = l ++ aput r k v := by
  unfold aput
  simp [List.take_append, List.drop_append, Nat.add_assoc, List.take_of_length_le, List.drop_eq_nil_of_le]
theorem icp43 {b : Nat} {x : It} (h : x.hd.hs.length = 32) (e : Int) : aput (ic b x) 43 [.int .i64 e] = ic b { x with e := e } := by
  have h1 := aput_right (icA b x) (hc x.hd ++ [.bool x.bg, .int .i64 x.e]) [.int .i64 e] 37
  have h2 := aput_right (hc x.hd) [.bool x.bg, .int .i64 x.e] [.int .i64 e] 1
  rw [hc_len h] at h2
  have h3 : aput (ic b x) 43 [.int .i64 e] = icA b x ++ aput (hc x.hd ++ [.bool x.bg, .int .i64 x.e]) 37 [.int .i64 e] := h1
  rw [h3, h2]
  rfl
theorem icp42 {b : Nat} {x : It} (h : x.hd.hs.length = 32) (t : Bool) : aput (ic b x) 42 [.bool t] = ic b { x with bg := t } := by
  have h1 := aput_right (icA b x) (hc x.hd ++ [.bool x.bg, .int .i64 x.e]) [.bool t] 36
  have h2 := aput_right (hc x.hd) [.bool x.bg, .int .i64 x.e] [.bool t] 0
  rw [hc_len h] at h2
  have h3 : aput (ic b x) 42 [.bool t] = icA b x ++ aput (hc x.hd ++ [.bool x.bg, .int .i64 x.e]) 36 [.bool t] := h1
  rw [h3, h2]
  rfl
theorem icp6 {b : Nat} {x : It} (h : x.hd.hs.length = 32) (y : Hd) (hy : y.hs.length = 32) : aput (ic b x) 6 (hc y) = ic b { x with hd := y } := by
  have h1 := aput_right (icA b x) (hc x.hd ++ [.bool x.bg, .int .i64 x.e]) (hc y) 0
  have h3 : aput (ic b x) 6 (hc y) = icA b x ++ aput (hc x.hd ++ [.bool x.bg, .int .i64 x.e]) 0 (hc y) := h1
  rw [h3]
  unfold aput
  rw [hc_len hy]
  have h4 : (hc x.hd ++ [Value.bool x.bg, .int .i64 x.e]).drop (0 + 36) = [Value.bool x.bg, .int .i64 x.e] := by
    rw [Nat.zero_add, ← hc_len h]; exact List.drop_left
  rw [h4]
  rfl
theorem ic_bel {n b : Nat} (hb : b < n) {x : It} : ∀ v ∈ ic b x, VBelow n v := fun v hv => by
  unfold ic icA at hv
  rcases List.mem_append.1 hv with hv | hv
  · simp at hv
    rcases hv with rfl | rfl | rfl | rfl | rfl | rfl
    · exact .ptr hb
    · exact .int
    · exact .int
    · exact .int
    · exact .int
    · exact .string
  · rcases List.mem_append.1 hv with hv | hv
    · exact hc_bel v hv
    · simp at hv
      rcases hv with rfl | rfl
      · exact .bool
      · exact .int
theorem dlen_ok (b : Nat) (nm : Option Nat) (T : List UInt8) (k : Nat) (h : Heap) (hd : DigK h b nm T k) : ACalls Tryz.prog 36 [.pointer (some ⟨b, 0, none⟩)] h fun v h' => v = .int .i64 (T.length : Int) ∧ h' = h := by
  obtain ⟨rv, hbc, hr, hk⟩ := hd
  refine ACalls.same .int (acalls_of mix Tryz.func36 k36 n36 (by simp) fun hcl hb => ?_)
  have hq : ∀ p, aeq .ptr (.pointer (some p)) (.pointer none) = some false := fun _ => rfl
  simp [c36, hq, hbc, dc9, apart]
  exact Heap.Ext.refl h
structure InK (y b : Nat) (nm : Option Nat) (x : It) (T : List UInt8) (H : Heap) : Prop where
  cy : H.cellsOf y = some (ic b x, .ex, 1)
  d : DigK H b nm T (T.length / 64)
  yb : y ≠ b
  yn : nm ≠ some y
  hl : x.hd.hs.length = 32
def Fr3 (H : Heap) (y b : Nat) (nm : Option Nat) (H' : Heap) : Prop := H.n ≤ H'.n ∧ ∀ z ob, H.m z = some ob → z ≠ y → z ≠ b → nm ≠ some z → H'.m z = some ob
theorem InK.keep {y b : Nat} {nm : Option Nat} {x : It} {T : List UInt8} {H H' : Heap} (q : InK y b nm x T H) (hk : ∀ z ob, H.m z = some ob → (z = y ∨ z = b ∨ nm = some z) → H'.m z = some ob) : InK y b nm x T H' :=
  ⟨by have := hk y _ (m_of_cells q.cy) (.inl rfl); unfold Heap.cellsOf; rw [this], digK_keep q.d fun z ob e h => hk z ob e (.inr h), q.yb, q.yn, q.hl⟩
theorem InK.set {y b : Nat} {nm : Option Nat} {x x' : It} {T : List UInt8} {H : Heap} (q : InK y b nm x T H) (hl : x'.hd.hs.length = 32) : InK y b nm x' T (H.set y (.cells (ic b x') .ex 1)) :=
  ⟨by simp [Heap.cellsOf, set_m], digK_keep q.d fun z ob e h => by
    rw [set_m, if_neg (by rcases h with rfl | h; exact fun e => q.yb e.symm; exact fun e => q.yn (e ▸ h))]; exact e, q.yb, q.yn, hl⟩
theorem Fr3.refl (H : Heap) (y b : Nat) (nm : Option Nat) : Fr3 H y b nm H := ⟨Nat.le_refl _, fun _ _ e _ _ _ => e⟩
theorem Fr3.set (H : Heap) (y b : Nat) (nm : Option Nat) (o : AObj) : Fr3 H y b nm (H.set y o) := ⟨Nat.le_refl _, fun z ob e h _ _ => by rw [set_m, if_neg h]; exact e⟩
theorem spoil_ok {y b : Nat} {nm : Option Nat} {x : It} {T : List UInt8} (e : Int) (h : Heap) (q : InK y b nm x T h) : ACalls Tryz.prog 30 [.pointer (some ⟨y, 0, none⟩), .int .i64 e] h fun v h' => v = .tuple #[sv [], .int .i64 e] ∧ h' = h.set y (.cells (ic b { x with e := e }) .ex 1) := by
  refine acalls_of mix Tryz.func30 k30 n30 (by simp) fun hcl hb => ?_
  have hp := icp43 (b := b) q.hl e
  have hlen := ic_len (b := b) q.hl
  have hcy := q.cy
  simp [c30, hcy, mcells, hlen, hp, bs_lit]
  rfl
theorem took_ok {y b : Nat} {nm : Option Nat} {x : It} {T : List UInt8} (h : Heap) (q : InK y b nm x T h) : ACalls Tryz.prog 12 [.pointer (some ⟨y, 0, none⟩)] h fun v h' => v = .int .i64 (T.length : Int) ∧ h' = h := by
  refine ACalls.same .int (acalls_of mix Tryz.func12 k12 n12 (by simp) fun hcl hb => ?_)
  have hcy := q.cy
  have hq : ∀ p, aeq .ptr (.pointer (some p)) (.pointer none) = some false := fun _ => rfl
  simp [c12, hcy, ic0, apart, hq]
  refine (dlen_ok b nm T _ h q.d).mono ?_
  rintro _ h9 ⟨rfl, e⟩
  rw [e]; clear e h9
  simp
  exact Heap.Ext.refl h
theorem ihead_ok {y b : Nat} {nm : Option Nat} {x : It} {T : List UInt8} (h : Heap) (q : InK y b nm x T h) : ACalls Tryz.prog 13 [.pointer (some ⟨y, 0, none⟩)] h fun v h' => v = .tuple #[hv (if x.bg then x.hd else zH), .bool x.bg] ∧ h' = h := by
  refine ACalls.same (vb_tup2 hv_below .bool) (acalls_ofR mix Tryz.func13 k13 n13 (by simp) fun hcl hb => ?_)
  have hq : ∀ p, aeq .ptr (.pointer (some p)) (.pointer none) = some false := fun _ => rfl
  have hzl : zH.hs.length = 32 := z32_len
  have hlz := hc_len hzl
  have hfz : afill (hc zH) [] = some (hc zH) := rfl
  have hpx : ∀ z : Hd, z.hs.length = 32 → aput (hc zH) 0 (hc z) = hc z := fun z hz => by
    unfold aput
    rw [hc_len hz, List.drop_eq_nil_of_le (by rw [hlz]; omega)]
    simp
  have hac : ∀ x : Hd, x.hs.length = 32 → acut (hc x) 0 36 = some (hc x) := fun x hx => acut_full (hc_len hx)
  have fz := cellsOf_new h (hc zH) .ex 1
  have hyn := cellsOf_lt hcl q.cy
  have hcy : ∀ o, (h.push o).cellsOf y = some (ic b x, .ex, 1) := fun o => by rw [cellsOf_ne (by omega)]; exact q.cy
  have e1 := (Heap.Ext.refl h).push hcl (.cells (hc zH) .ex 1)
  have e2 := (Heap.Ext.refl h).push hcl (.cells (hc x.hd) .ex 1)
  have f2 := cellsOf_new h (hc x.hd) .ex 1
  cases hbg : x.bg with
  | false =>
    simp [c13, aun, hq, z36_eq, hcy, ic42 q.hl, apart, hbg, hfz, fz, m_hv, m_hc, hlz, hpx zH hzl, set_push, hac zH hzl]
    exact ⟨rfl, e1⟩
  | true =>
    simp [c13, aun, hq, z36_eq, hcy, ic42 q.hl, ic6 q.hl, apart, hbg, hfz, fz, f2, m_hv, m_hc, hlz, hc_len q.hl, hpx x.hd q.hl, set_push, hac x.hd q.hl]
    exact ⟨rfl, e2⟩
def c31 : AC := .seq (.ops [⟨some 4,none,.mv (.const (.int .i64 0))⟩]) (.seq (.ops [⟨some 8,none,.mv (.tmp 1)⟩,⟨some 9,none,.call 66 [.tmp 8]⟩,⟨some 7,none,.mv (.tmp 9)⟩,⟨some 10,none,.extr (.tmp 7) 0⟩,⟨some 11,none,.extr (.tmp 7) 1⟩,⟨some 5,none,.alloc z36⟩,⟨none,none,.store 36 (.tmp 5) (.tmp 10)⟩,⟨some 6,none,.mv (.tmp 11)⟩]) (.seq (.block 0 (.seq (.ops [⟨some 13,none,.mv (.tmp 6)⟩,⟨some 14,none,.bin .neq (.tmp 13) (.const (.int .i64 0))⟩,⟨some 12,none,.mv (.tmp 14)⟩]) (.cond (.tmp 12) (.seq (.ops [⟨some 15,none,.mv (.tmp 6)⟩,⟨some 4,none,.mv (.tmp 15)⟩]) .ret) (.seq (.draw [([⟨some 17,none,.fAddr 3 (.tmp 5)⟩,⟨some 18,none,.load none (.tmp 17)⟩,⟨some 19,none,.mv (.tmp 0)⟩,⟨some 20,none,.nilck (.tmp 19)⟩,⟨some 21,none,.fAddr 1 (.tmp 20)⟩,⟨some 22,none,.load none (.tmp 21)⟩,⟨some 23,none,.bin .gtr (.tmp 18) (.tmp 22)⟩,⟨some 16,none,.mv (.tmp 23)⟩],[],[])]) (.cond (.tmp 16) (.seq (.ops [⟨some 4,none,.mv (.const (.int .i64 12))⟩]) .ret) (.seq (.draw [([⟨some 25,none,.fAddr 0 (.tmp 5)⟩,⟨some 26,none,.load (some 3) (.tmp 25)⟩,⟨some 27,none,.mv (.tmp 0)⟩,⟨some 28,none,.nilck (.tmp 27)⟩,⟨some 29,none,.fAddr 2 (.tmp 28)⟩,⟨some 30,none,.load (some 3) (.tmp 29)⟩],[⟨some 31,none,.call 67 [.tmp 26,.tmp 30]⟩],[]),([⟨some 32,none,.bin .lss (.tmp 31) (.const (.int .i64 0))⟩,⟨some 24,none,.mv (.tmp 32)⟩],[],[])]) (.cond (.tmp 24) (.seq (.ops [⟨some 4,none,.mv (.const (.int .i64 11))⟩]) .ret) .skip))))))) (.seq (.ops [⟨some 33,none,.mv (.tmp 0)⟩,⟨some 34,none,.mv (.tmp 0)⟩,⟨some 35,none,.load (some 36) (.tmp 5)⟩,⟨some 36,none,.nilck (.tmp 33)⟩,⟨some 37,none,.fAddr 6 (.tmp 36)⟩,⟨none,none,.store 36 (.tmp 37) (.tmp 35)⟩,⟨some 38,none,.nilck (.tmp 34)⟩,⟨some 39,none,.fAddr 42 (.tmp 38)⟩,⟨none,none,.store 1 (.tmp 39) (.const (.bool true))⟩]) (.seq (.ops [⟨some 4,none,.mv (.const (.int .i64 0))⟩]) .ret))))
theorem k31 : compF Tryz.prog Tryz.f31 = some (c31, [4]) := by kernel_rfl
theorem n31 : Tryz.f31.ntmps = 40 := by kernel_rfl
variable [Nonempty GM]
theorem cmpV_neg (x y : V3) : cmpV x y < 0 ↔ vlt x y := by
  by_cases h1 : vlt x y
  · simp [cmpV, h1]
  · by_cases h2 : vlt y x <;> simp [cmpV, h1, h2]
theorem Fr3.set' {h H : Heap} {y b : Nat} {nm : Option Nat} (f : Fr3 h y b nm H) (o : AObj) : Fr3 h y b nm (H.set y o) := ⟨f.1, fun z ob e h1 h2 h3 => by rw [set_m, if_neg h1]; exact f.2 z ob e h1 h2 h3⟩
theorem ibegin_ok {y b : Nat} {nm : Option Nat} {x : It} {T : List UInt8} (t : List UInt8) (ht : t.length ≤ 1000000) (h : Heap) (q : InK y b nm x T h) :
    ACalls Tryz.prog 31 [.pointer (some ⟨y, 0, none⟩), .string (bs t)] h fun v h' => v = .int .i64 (beginF x t).2 ∧ InK y b nm (beginF x t).1 T h' ∧ Fr3 h y b nm h' := by
  refine acalls_of mix Tryz.func31 k31 n31 (by simp) fun hcl hb => ?_
  have hzl : zH.hs.length = 32 := z32_len
  have hlz := hc_len hzl
  have hfz : afill (hc zH) [] = some (hc zH) := rfl
  have hpx : ∀ z : Hd, z.hs.length = 32 → aput (hc zH) 0 (hc z) = hc z := fun z hz => by
    unfold aput
    rw [hc_len hz, List.drop_eq_nil_of_le (by rw [hlz]; omega)]
    simp
  have hac : ∀ x : Hd, x.hs.length = 32 → acut (hc x) 0 36 = some (hc x) := fun x hx => acut_full (hc_len hx)
  have fz := cellsOf_new h (hc zH) .ex 1
  have hyn := cellsOf_lt hcl q.cy
  simp only [c31, s_seq, s_ops]
  simp
  refine (mParse_ok t ht h).mono ?_
  rintro v h9 ⟨hp, e⟩
  rw [e]; clear e h9
  rw [parF_of hp]
  have hl := parF_len t
  simp [z36_eq, hfz, fz, m_hv, m_hc, hlz, hpx _ hl, hc_len hl, set_push]
  unfold beginF
  generalize parF t = z at *
  obtain ⟨z, e⟩ := z
  dsimp only at hl ⊢
  have f1 := cellsOf_new h (hc z) .ex 1
  have n1 : (h.push (.cells (hc z) .ex 1)).n = h.n + 1 := rfl
  have k1 : ∀ u ob, h.m u = some ob → (h.push (.cells (hc z) .ex 1)).m u = some ob := fun u ob e => by rw [push_m, if_neg (by have := (hcl u ob e).1; omega)]; exact e
  have q1 : InK y b nm x T (h.push (.cells (hc z) .ex 1)) := q.keep fun u ob e _ => k1 u ob e
  have fr1 : Fr3 h y b nm (h.push (.cells (hc z) .ex 1)) := ⟨Nat.le_succ _, fun u ob e _ _ _ => k1 u ob e⟩
  have hcy := q1.cy
  generalize h.push (.cells (hc z) .ex 1) = H1 at *
  by_cases he : e = 0
  case neg =>
    rw [if_pos he]
    simp [he]
    exact ⟨q1, fr1⟩
  subst he
  have g3 : (hc z)[3]? = some (.int .i64 z.n) := rfl
  have g0 : acut (hc z) 0 3 = some (iv z.a z.b z.c) := hc_cut3 z
  rw [if_neg (by simp)]
  by_cases hr : x.room < z.n
  · rw [if_pos hr]
    simp [f1, g3, hcy, ic1, apart, hr]
    exact ⟨q1, fr1⟩
  rw [if_neg hr]
  simp [f1, g3, g0, hcy, ic1, ic2 q.hl, apart, hr]
  refine (compareV_ok ⟨z.a, z.b, z.c⟩ ⟨x.fa, x.fb, x.fc⟩ H1).mono ?_
  rintro _ h9 ⟨rfl, e⟩
  rw [e]; clear e h9
  have hneg := cmpV_neg ⟨z.a, z.b, z.c⟩ ⟨x.fa, x.fb, x.fc⟩
  by_cases hv : vlt ⟨z.a, z.b, z.c⟩ ⟨x.fa, x.fb, x.fc⟩
  · rw [if_pos hv]
    have hv' := hneg.2 hv
    simp [hv']
    exact ⟨q1, fr1⟩
  · rw [if_neg hv]
    have hv' : ¬ cmpV ⟨z.a, z.b, z.c⟩ ⟨x.fa, x.fb, x.fc⟩ < 0 := fun k => hv (hneg.1 k)
    have hlen := ic_len (b := b) q.hl
    have hlen2 := ic_len (b := b) (x := { x with hd := z }) hl
    have p6 := icp6 (b := b) q.hl z hl
    have p42 := icp42 (b := b) (x := { x with hd := z }) hl true
    have c2 : ∀ o, (H1.set y o).cellsOf y = match o with | .cells c m e => some (c, m, e) | _ => none := fun o => by
      cases o <;> simp [Heap.cellsOf, set_m]
    simp [hv', f1, hac z hl, hcy, m_hc, hc_len hl, hlen, hlen2, p6, p42, apart, mcells, c2]
    exact ⟨(q1.set (x' := { x with hd := z }) hl).set (x' := { x with hd := z, bg := true }) hl, (fr1.set' _).set' _⟩

def c10 : AC := .seq (.ops [⟨some 4,none,.mv (.const (.string ⟨⟨[]⟩⟩))⟩,⟨some 5,none,.mv (.const (.int .i64 0))⟩]) (.seq (.seq (.ops [⟨some 11,none,.mv (.tmp 0)⟩,⟨some 12,none,.eqv false .ptr (.tmp 11) (.const (.pointer none))⟩]) (.cond (.tmp 12) (.seq (.ops [⟨some 4,none,.mv (.const (.string ⟨⟨[]⟩⟩))⟩,⟨some 5,none,.mv (.const (.int .i64 1))⟩]) .ret) .skip)) (.seq (.seq (.ops [⟨some 13,none,.mv (.tmp 0)⟩,⟨some 14,none,.nilck (.tmp 13)⟩,⟨some 15,none,.fAddr 43 (.tmp 14)⟩,⟨some 16,none,.load none (.tmp 15)⟩,⟨some 17,none,.bin .neq (.tmp 16) (.const (.int .i64 0))⟩]) (.cond (.tmp 17) (.seq (.draw [([⟨some 18,none,.mv (.tmp 0)⟩,⟨some 19,none,.nilck (.tmp 18)⟩,⟨some 20,none,.fAddr 43 (.tmp 19)⟩,⟨some 21,none,.load none (.tmp 20)⟩,⟨some 4,none,.mv (.const (.string ⟨⟨[]⟩⟩))⟩,⟨some 5,none,.mv (.tmp 21)⟩],[],[])]) .ret) .skip)) (.seq (.ops [⟨some 22,none,.mv (.tmp 1)⟩,⟨some 23,none,.call 28 [.tmp 22,.const (.string ⟨⟨[]⟩⟩)]⟩,⟨some 6,none,.mv (.tmp 23)⟩]) (.seq (.seq (.ops [⟨some 24,none,.mv (.tmp 0)⟩,⟨some 25,none,.nilck (.tmp 24)⟩,⟨some 26,none,.fAddr 42 (.tmp 25)⟩,⟨some 27,none,.load none (.tmp 26)⟩,⟨some 28,none,.un .not (.tmp 27)⟩]) (.cond (.tmp 28) (.seq (.ops [⟨some 30,none,.mv (.tmp 0)⟩,⟨some 31,none,.nilck (.tmp 30)⟩,⟨some 32,none,.fAddr 5 (.tmp 31)⟩,⟨some 33,none,.load none (.tmp 32)⟩,⟨some 34,none,.mv (.tmp 6)⟩,⟨some 35,none,.bin .add (.tmp 33) (.tmp 34)⟩,⟨some 36,none,.call 29 [.tmp 35]⟩,⟨some 29,none,.mv (.tmp 36)⟩,⟨some 37,none,.extr (.tmp 29) 0⟩,⟨some 38,none,.extr (.tmp 29) 1⟩,⟨some 39,none,.extr (.tmp 29) 2⟩,⟨some 7,none,.mv (.tmp 37)⟩,⟨some 8,none,.mv (.tmp 38)⟩,⟨some 9,none,.mv (.tmp 39)⟩]) (.seq (.ops [⟨some 40,none,.mv (.tmp 0)⟩,⟨some 41,none,.mv (.tmp 7)⟩,⟨some 42,none,.nilck (.tmp 40)⟩,⟨some 43,none,.fAddr 5 (.tmp 42)⟩,⟨none,none,.store 1 (.tmp 43) (.tmp 41)⟩]) (.seq (.seq (.ops [⟨some 44,none,.mv (.tmp 9)⟩,⟨some 45,none,.un .not (.tmp 44)⟩]) (.cond (.tmp 45) (.seq (.seq (.ops [⟨some 46,none,.mv (.tmp 7)⟩,⟨some 47,none,.lenS true (.tmp 46)⟩,⟨some 48,none,.bin .gtr (.tmp 47) (.const (.int .i64 160))⟩]) (.cond (.tmp 48) (.seq (.ops [⟨some 49,none,.mv (.tmp 0)⟩,⟨some 50,none,.call 30 [.tmp 49,.const (.int .i64 12)]⟩,⟨some 51,none,.extr (.tmp 50) 0⟩,⟨some 52,none,.extr (.tmp 50) 1⟩,⟨some 4,none,.mv (.tmp 51)⟩,⟨some 5,none,.mv (.tmp 52)⟩]) .ret) .skip)) (.seq (.ops [⟨some 4,none,.mv (.const (.string ⟨⟨[]⟩⟩))⟩,⟨some 5,none,.mv (.const (.int .i64 0))⟩]) .ret)) .skip)) (.seq (.seq (.ops [⟨some 53,none,.mv (.tmp 0)⟩,⟨some 54,none,.mv (.tmp 7)⟩,⟨some 55,none,.call 31 [.tmp 53,.tmp 54]⟩,⟨some 10,none,.mv (.tmp 55)⟩]) (.seq (.ops [⟨some 56,none,.mv (.tmp 10)⟩,⟨some 57,none,.bin .neq (.tmp 56) (.const (.int .i64 0))⟩]) (.cond (.tmp 57) (.seq (.ops [⟨some 58,none,.mv (.tmp 0)⟩,⟨some 59,none,.mv (.tmp 10)⟩,⟨some 60,none,.call 30 [.tmp 58,.tmp 59]⟩,⟨some 61,none,.extr (.tmp 60) 0⟩,⟨some 62,none,.extr (.tmp 60) 1⟩,⟨some 4,none,.mv (.tmp 61)⟩,⟨some 5,none,.mv (.tmp 62)⟩]) .ret) .skip))) (.ops [⟨some 63,none,.mv (.tmp 8)⟩,⟨some 6,none,.mv (.tmp 63)⟩]))))) .skip)) (.seq (.seq (.draw [([⟨some 64,none,.mv (.tmp 6)⟩,⟨some 65,none,.lenS true (.tmp 64)⟩,⟨some 66,none,.mv (.tmp 0)⟩,⟨some 67,none,.nilck (.tmp 66)⟩,⟨some 68,none,.fAddr 6 (.tmp 67)⟩,⟨some 69,none,.fAddr 3 (.tmp 68)⟩,⟨some 70,none,.load none (.tmp 69)⟩,⟨some 71,none,.mv (.tmp 0)⟩],[⟨some 72,none,.call 12 [.tmp 71]⟩],[⟨some 70,none,.load none (.tmp 69)⟩]),([⟨some 73,none,.bin .sub (.tmp 70) (.tmp 72)⟩,⟨some 74,none,.bin .gtr (.tmp 65) (.tmp 73)⟩],[],[])]) (.cond (.tmp 74) (.seq (.ops [⟨some 75,none,.mv (.tmp 0)⟩,⟨some 76,none,.call 30 [.tmp 75,.const (.int .i64 12)]⟩,⟨some 77,none,.extr (.tmp 76) 0⟩,⟨some 78,none,.extr (.tmp 76) 1⟩,⟨some 4,none,.mv (.tmp 77)⟩,⟨some 5,none,.mv (.tmp 78)⟩]) .ret) .skip)) (.seq (.ops [⟨some 79,none,.mv (.tmp 0)⟩,⟨some 80,none,.nilck (.tmp 79)⟩,⟨some 81,none,.fAddr 0 (.tmp 80)⟩,⟨some 82,none,.load none (.tmp 81)⟩,⟨some 83,none,.mv (.tmp 6)⟩,⟨some 84,none,.buildS 1 [.string ⟨⟨[]⟩⟩] [(0,1,.tmp 83)]⟩,⟨some 85,none,.call 32 [.tmp 82,.tmp 84]⟩]) (.seq (.ops [⟨some 86,none,.mv (.tmp 6)⟩,⟨some 4,none,.mv (.tmp 86)⟩,⟨some 5,none,.mv (.const (.int .i64 0))⟩]) .ret)))))))
theorem k10 : compF Tryz.prog Tryz.f10 = some (c10, [4, 5]) := by kernel_rfl
theorem n10 : Tryz.f10.ntmps = 87 := by kernel_rfl
variable [Nonempty GM]
set_option maxHeartbeats 2000000 in
theorem ifeed_ok {y b : Nat} {nm : Option Nat} {x : It} {T : List UInt8} (L : List (List UInt8)) (p : List UInt8) (v : Value) (h : Heap) (q : InK y b nm x T h) (hn : 0 ≤ x.hd.n ∧ x.hd.n ≤ 16777215) (hT0 : T.length ≤ 1000000) (htx : x.text.length ≤ 500000)
    (hp : joinB [] L = p) (hs : SlJ h v L) (hL : L ≠ []) (hLn : L.length ≤ 1000000) (hpos : 0 < sumL L ∨ L.length = 1) (hb0 : sumL L ≤ 100000) (hpl : p.length ≤ 100000) :
    ACalls Tryz.prog 10 [.pointer (some ⟨y, 0, none⟩), v] h fun r h' => r = .tuple #[sv (feedF x T p).2.1, .int .i64 (feedF x T p).2.2] ∧ ∃ nm', InK y b nm' (feedF x T p).1.1 (feedF x T p).1.2 h' ∧ Fr3 h y b nm h' ∧ (nm' = nm ∨ ∃ z, nm' = some z ∧ h.n ≤ z) := by
  refine acalls_of mix Tryz.func10 k10 n10 (by simp) fun hcl hb => ?_
  have hq : ∀ p, aeq .ptr (.pointer (some p)) (.pointer none) = some false := fun _ => rfl
  have hsv : ∀ l, sv l = .string (bs l) := fun _ => rfl
  have hcy := q.cy
  simp only [c10, s_seq, s_ops]
  simp [hq, hcy, ic43 q.hl, apart]
  by_cases he : x.e = 0
  case neg =>
    have hF : feedF x T p = ((x, T), ([], x.e)) := if_pos he
    rw [hF]
    simp [he, hcy, ic43 q.hl, apart, bs_lit]
    exact ⟨rfl, nm, q, Fr3.refl _ _ _ _, .inl rfl⟩
  simp [he, bs_lit]
  refine (join0_ok v L h hs hL hLn hpos (by omega)).mono ?_
  rintro _ h9 ⟨rfl, e⟩
  rw [e]; clear e h9
  rw [hp]
  cases hbg : x.bg with
  | true =>
    have hF : feedF x T p = takeFI x T p := by unfold feedF; rw [if_neg (by simp [he]), if_pos hbg]
    have fr1 : Fr3 h y b nm h := Fr3.refl _ _ _ _
    simp [aun, hcy, ic42 q.hl, apart, hbg]
    have w9 : IntKind.i64.wrap (x.hd.n - (T.length : Int)) = x.hd.n - (T.length : Int) := by rw [IntWalk.i64_in _ (by omega)]
    have hcy1 := q.cy
    simp [bs_size, hq, aun, hcy1, ic9, ic0, apart]
    refine (took_ok _ q).mono ?_
    rintro _ h9 ⟨rfl, e⟩
    rw [e]; clear e h9
    by_cases hlt : x.hd.n - (T.length : Int) < (p.length : Int)
    · simp [bs_size, hcy1, ic9, apart, w9, hlt, aun]
      refine (spoil_ok 12 _ q).mono ?_
      rintro _ h9 ⟨rfl, e⟩
      rw [e]; clear e h9
      simp
      have hT : takeFI x T p = spoilF x T 12 := if_pos hlt
      rw [hF, hT]
      exact ⟨⟨rfl, rfl⟩, nm, q.set (x' := { x with e := 12 }) q.hl, fr1.set' _, .inl rfl⟩
    · have hT : takeFI x T p = ((x, T ++ p), (p, 0)) := if_neg hlt
      have k2 : ∀ u ob, h.m u = some ob → (h.push (.cells [.string (bs p)] .ex 1)).m u = some ob := fun u ob e => by rw [push_m, if_neg (by have := (hcl u ob e).1; omega)]; exact e
      have q2 : InK y b nm x T (h.push (.cells [.string (bs p)] .ex 1)) := q.keep fun u ob e _ => k2 u ob e
      have hfil : afill [.string (bs [])] [(0, 1, .string (bs p))] = some [.string (bs p)] := rfl
      have hyn1 := cellsOf_lt hcl q.cy
      have hlt1 := digK_lt hcl q.d
      have hw := write_ok b nm T [p] (.slice (some ⟨h.n, 0, none⟩) 1 1) (h.push (.cells [.string (bs p)] .ex 1)) q2.d
        (fun H hF => by
          have := hF.2 h.n (.cells [.string (bs p)] .ex 1) (by simp [push_m]) (by omega) (fun e => by have := hlt1.2 _ e; omega)
          refine .inr ⟨h.n, 0, 1, [.string (bs p)], .ex, 1, rfl, ?_, Nat.le_refl _, fun _ => by simp, fun i hi => ?_⟩
          · unfold Heap.cellsOf
            rw [this]
          · obtain rfl : i = 0 := by simp at hi; exact hi
            rfl) (by simp; omega) (by simp)
      rw [show [p].flatten = p by simp] at hw
      have hn2 : (h.push (.cells [.string (bs p)] .ex 1)).n = h.n + 1 := rfl
      simp [bs_size, bs_lit, hcy1, ic9, ic0, apart, w9, hlt, aun, hfil]
      generalize h.push (.cells [.string (bs p)] .ex 1) = H2 at *
      refine hw.mono' ?_
      rintro _ H3 hc3 _ ⟨⟨rfl, rfl⟩, nm', d3, f3, m3⟩
      simp
      rw [hF, hT]
      refine ⟨⟨rfl, rfl⟩, nm', ⟨?_, d3, q.yb, ?_, q.hl⟩, ⟨?_, fun u ob e h1 h2 h3 => f3.2 u ob (k2 u ob (fr1.2 u ob e h1 h2 h3)) h2 h3⟩, ?_⟩
      · have := f3.2 y _ (m_of_cells q2.cy) q2.yb q2.yn
        unfold Heap.cellsOf; rw [this]
      · rcases m3 with m3 | ⟨z, m3, m4⟩
        · rw [m3]; exact q.yn
        · rw [m3]; intro k; cases k; omega
      · have := f3.1
        have := fr1.1
        omega
      · rcases m3 with m3 | ⟨z, m3, m4⟩
        · exact .inl m3
        · exact .inr ⟨z, m3, by have := fr1.1; omega⟩
  | false =>
    have z1 : x.text.length + p.length ≤ 9223372036854775807 := by omega
    simp [aun, hcy, ic42 q.hl, ic5, apart, hbg, bs_size, bs_append, z1]
    refine (mSplit_ok (x.text ++ p) (by rw [List.length_append]; omega) h).mono ?_
    rintro _ h9 ⟨hv9, e⟩
    rw [e]; clear e h9
    have happ := splF_app (x.text ++ p)
    rw [splF_of hv9]
    clear hv9
    have hF0 : feedF x T p = (if (splF (x.text ++ p)).2.2 = false then (if 160 < (splF (x.text ++ p)).1.length then spoilF { x with text := (splF (x.text ++ p)).1 } T 12 else (({ x with text := (splF (x.text ++ p)).1 }, T), ([], 0)))
      else if (beginF { x with text := (splF (x.text ++ p)).1 } (splF (x.text ++ p)).1).2 ≠ 0 then spoilF (beginF { x with text := (splF (x.text ++ p)).1 } (splF (x.text ++ p)).1).1 T (beginF { x with text := (splF (x.text ++ p)).1 } (splF (x.text ++ p)).1).2
      else takeFI (beginF { x with text := (splF (x.text ++ p)).1 } (splF (x.text ++ p)).1).1 T (splF (x.text ++ p)).2.1) := by
      unfold feedF; rw [if_neg (by simp [he]), if_neg (by simp [hbg])]
    have hal := congrArg List.length happ
    rw [List.length_append, List.length_append] at hal
    generalize splF (x.text ++ p) = w at *
    obtain ⟨t, r, en⟩ := w
    dsimp only at hF0 hal ⊢
    have hlen := ic_len (b := b) q.hl
    have q1 : InK y b nm { x with text := t } T (h.set y (.cells (ic b { x with text := t }) .ex 1)) := q.set (x' := { x with text := t }) q.hl
    have fr1 : Fr3 h y b nm (h.set y (.cells (ic b { x with text := t }) .ex 1)) := (Fr3.refl _ _ _ _).set' _
    have hyn := cellsOf_lt hcl q.cy
    have hbn := (digK_lt hcl q.d).1
    have hcl1 : (h.set y (.cells (ic b { x with text := t }) .ex 1)).Closed := closed_set hcl hyn (fun u hu => ic_bel hbn u hu)
    have hsn : (h.set y (.cells (ic b { x with text := t }) .ex 1)).n = h.n := rfl
    simp [hsv, hcy, mcells, hlen, icp5]
    generalize h.set y (.cells (ic b { x with text := t }) .ex 1) = H1 at *
    cases en with
    | false =>
      rw [if_pos rfl] at hF0
      by_cases h160 : 160 < t.length
      · have h160' : (160 : Int) < (t.length : Int) := by omega
        rw [if_pos h160] at hF0
        simp [aun, bs_size, h160']
        refine (spoil_ok 12 _ q1).mono ?_
        rintro _ h9 ⟨rfl, e⟩
        rw [e]; clear e h9
        simp
        rw [hF0]
        exact ⟨⟨rfl, rfl⟩, nm, q1.set (x' := { x with text := t, e := 12 }) q.hl, fr1.set' _, .inl rfl⟩
      · have h160' : ¬ (160 : Int) < (t.length : Int) := by omega
        rw [if_neg h160] at hF0
        simp [aun, bs_size, h160', bs_lit]
        rw [hF0]
        exact ⟨⟨rfl, rfl⟩, nm, q1, fr1, .inl rfl⟩
    | true =>
      rw [if_neg (by simp)] at hF0
      simp [aun]
      refine (ibegin_ok t (by omega) H1 q1).mono' ?_
      rintro _ H4 hc4 _ ⟨rfl, q4, f4⟩
      have fr4 : Fr3 h y b nm H4 := ⟨by have := f4.1; omega, fun u ob e h1 h2 h3 => f4.2 u ob (fr1.2 u ob e h1 h2 h3) h1 h2 h3⟩
      by_cases hbe : (beginF { x with text := t } t).2 = 0
      case neg =>
        rw [if_pos hbe] at hF0
        simp [hbe]
        refine (spoil_ok _ _ q4).mono ?_
        rintro _ h9 ⟨rfl, e⟩
        rw [e]; clear e h9
        simp
        rw [hF0]
        exact ⟨⟨rfl, rfl⟩, nm, q4.set (x' := { (beginF { x with text := t } t).1 with e := (beginF { x with text := t } t).2 }) q4.hl, fr4.set' _, .inl rfl⟩
      rw [if_neg (by simp [hbe])] at hF0
      have hn4 : 0 ≤ (beginF { x with text := t } t).1.hd.n ∧ (beginF { x with text := t } t).1.hd.n ≤ 16777215 := by
        obtain ⟨e1, e2, _, _⟩ := begin_ok hbe
        rw [e1]
        exact (parF_ok e2).1.2
      generalize (beginF { x with text := t } t).1 = x4 at *
      simp [hbe]
      have w9 : IntKind.i64.wrap (x4.hd.n - (T.length : Int)) = x4.hd.n - (T.length : Int) := by rw [IntWalk.i64_in _ (by omega)]
      have hcy1 := q4.cy
      simp [bs_size, hq, hbe, hcy1, ic9, ic0, apart]
      refine (took_ok _ q4).mono ?_
      rintro _ h9 ⟨rfl, e⟩
      rw [e]; clear e h9
      by_cases hlt : x4.hd.n - (T.length : Int) < (r.length : Int)
      · simp [bs_size, hcy1, ic9, apart, w9, hlt, hbe]
        refine (spoil_ok 12 _ q4).mono ?_
        rintro _ h9 ⟨rfl, e⟩
        rw [e]; clear e h9
        simp
        have hT : takeFI x4 T r = spoilF x4 T 12 := if_pos hlt
        rw [hF0, hT]
        exact ⟨⟨rfl, rfl⟩, nm, q4.set (x' := { x4 with e := 12 }) q4.hl, fr4.set' _, .inl rfl⟩
      · have hT : takeFI x4 T r = ((x4, T ++ r), (r, 0)) := if_neg hlt
        have k2 : ∀ u ob, H4.m u = some ob → (H4.push (.cells [.string (bs r)] .ex 1)).m u = some ob := fun u ob e => by rw [push_m, if_neg (by have := (hc4 u ob e).1; omega)]; exact e
        have q2 : InK y b nm x4 T (H4.push (.cells [.string (bs r)] .ex 1)) := q4.keep fun u ob e _ => k2 u ob e
        have hfil : afill [.string (bs [])] [(0, 1, .string (bs r))] = some [.string (bs r)] := rfl
        have hyn1 := cellsOf_lt hc4 q4.cy
        have hlt1 := digK_lt hc4 q4.d
        have hw := write_ok b nm T [r] (.slice (some ⟨H4.n, 0, none⟩) 1 1) (H4.push (.cells [.string (bs r)] .ex 1)) q2.d
          (fun H hF => by
            have := hF.2 H4.n (.cells [.string (bs r)] .ex 1) (by simp [push_m]) (by omega) (fun e => by have := hlt1.2 _ e; omega)
            refine .inr ⟨H4.n, 0, 1, [.string (bs r)], .ex, 1, rfl, ?_, Nat.le_refl _, fun _ => by simp, fun i hi => ?_⟩
            · unfold Heap.cellsOf
              rw [this]
            · obtain rfl : i = 0 := by simp at hi; exact hi
              rfl) (by simp; omega) (by simp)
        rw [show [r].flatten = r by simp] at hw
        have hn2 : (H4.push (.cells [.string (bs r)] .ex 1)).n = H4.n + 1 := rfl
        simp [bs_size, bs_lit, hcy1, ic9, ic0, apart, w9, hlt, hbe, hfil]
        generalize H4.push (.cells [.string (bs r)] .ex 1) = H2 at *
        refine hw.mono' ?_
        rintro _ H3 hc3 _ ⟨⟨rfl, rfl⟩, nm', d3, f3, m3⟩
        simp
        rw [hF0, hT]
        refine ⟨⟨rfl, rfl⟩, nm', ⟨?_, d3, q4.yb, ?_, q4.hl⟩, ⟨?_, fun u ob e h1 h2 h3 => f3.2 u ob (k2 u ob (fr4.2 u ob e h1 h2 h3)) h2 h3⟩, ?_⟩
        · have := f3.2 y _ (m_of_cells q2.cy) q2.yb q2.yn
          unfold Heap.cellsOf; rw [this]
        · rcases m3 with m3 | ⟨z, m3, m4⟩
          · rw [m3]; exact q4.yn
          · rw [m3]; intro k; cases k; omega
        · have := f3.1
          have := fr4.1
          omega
        · rcases m3 with m3 | ⟨z, m3, m4⟩
          · exact .inl m3
          · exact .inr ⟨z, m3, by have := fr4.1; omega⟩

def c9 : AC := .seq (.ops [⟨some 3,none,.box (.tmp 1)⟩,⟨some 4,none,.mv (.const (.pointer none))⟩]) (.seq (.draw [([⟨some 6,none,.mv (.tmp 0)⟩,⟨some 7,none,.load (some 3) (.tmp 3)⟩],[⟨some 5,none,.call 27 []⟩],[⟨some 7,none,.load (some 3) (.tmp 3)⟩]),([⟨some 8,none,.build [.pointer none,.int .i64 0,.int .i64 0,.int .i64 0,.int .i64 0,.string ⟨⟨[]⟩⟩,.int .i64 0,.int .i64 0,.int .i64 0,.int .i64 0,.int .u8 0,.int .u8 0,.int .u8 0,.int .u8 0,.int .u8 0,.int .u8 0,.int .u8 0,.int .u8 0,.int .u8 0,.int .u8 0,.int .u8 0,.int .u8 0,.int .u8 0,.int .u8 0,.int .u8 0,.int .u8 0,.int .u8 0,.int .u8 0,.int .u8 0,.int .u8 0,.int .u8 0,.int .u8 0,.int .u8 0,.int .u8 0,.int .u8 0,.int .u8 0,.int .u8 0,.int .u8 0,.int .u8 0,.int .u8 0,.int .u8 0,.int .u8 0,.bool false,.int .i64 0] [(0,1,.tmp 5),(1,1,.tmp 6),(2,3,.tmp 7)]⟩],[⟨some 9,none,.box (.tmp 8)⟩],[]),([⟨some 4,none,.mv (.tmp 9)⟩],[],[])]) .ret)
theorem k9 : compF Tryz.prog Tryz.f9 = some (c9, [4]) := by kernel_rfl
theorem n9 : Tryz.f9.ntmps = 10 := by kernel_rfl
def c14 : AC := .seq (.ops [⟨some 2,none,.alloc z36⟩,⟨some 3,none,.mv (.const (.int .i64 0))⟩]) (.seq (.block 0 (.seq (.ops [⟨some 5,none,.mv (.tmp 0)⟩,⟨some 6,none,.eqv false .ptr (.tmp 5) (.const (.pointer none))⟩,⟨some 4,none,.mv (.tmp 6)⟩]) (.cond (.tmp 4) (.seq (.ops [⟨some 7,none,.build z36 []⟩,⟨none,none,.store 36 (.tmp 2) (.tmp 7)⟩,⟨some 3,none,.mv (.const (.int .i64 1))⟩]) .ret) (.seq (.ops [⟨some 9,none,.mv (.tmp 0)⟩,⟨some 10,none,.nilck (.tmp 9)⟩,⟨some 11,none,.fAddr 43 (.tmp 10)⟩,⟨some 12,none,.load none (.tmp 11)⟩,⟨some 13,none,.bin .neq (.tmp 12) (.const (.int .i64 0))⟩,⟨some 8,none,.mv (.tmp 13)⟩]) (.cond (.tmp 8) (.seq (.draw [([⟨some 14,none,.build z36 []⟩,⟨some 15,none,.mv (.tmp 0)⟩,⟨some 16,none,.nilck (.tmp 15)⟩,⟨some 17,none,.fAddr 43 (.tmp 16)⟩,⟨some 18,none,.load none (.tmp 17)⟩],[⟨none,none,.store 36 (.tmp 2) (.tmp 14)⟩],[⟨some 18,none,.load none (.tmp 17)⟩]),([⟨some 3,none,.mv (.tmp 18)⟩],[],[])]) .ret) (.seq (.draw [([⟨some 20,none,.mv (.tmp 0)⟩,⟨some 21,none,.nilck (.tmp 20)⟩,⟨some 22,none,.fAddr 42 (.tmp 21)⟩,⟨some 23,none,.load none (.tmp 22)⟩,⟨some 24,none,.un .not (.tmp 23)⟩,⟨some 25,none,.mv (.tmp 24)⟩,⟨some 26,some (25,false),.mv (.tmp 0)⟩,⟨some 28,some (25,false),.mv (.tmp 0)⟩,⟨some 29,some (25,false),.nilck (.tmp 28)⟩,⟨some 30,some (25,false),.fAddr 6 (.tmp 29)⟩,⟨some 31,some (25,false),.fAddr 3 (.tmp 30)⟩,⟨some 32,some (25,false),.load none (.tmp 31)⟩],[⟨some 27,some (25,false),.call 12 [.tmp 26]⟩],[⟨some 32,some (25,false),.load none (.tmp 31)⟩]),([⟨some 33,some (25,false),.bin .lss (.tmp 27) (.tmp 32)⟩,⟨some 34,none,.pick (.tmp 25) (.const (.bool true)) (.tmp 33)⟩,⟨some 19,none,.mv (.tmp 34)⟩],[],[])]) (.cond (.tmp 19) (.seq (.ops [⟨some 35,none,.build z36 []⟩,⟨none,none,.store 36 (.tmp 2) (.tmp 35)⟩,⟨some 3,none,.mv (.const (.int .i64 13))⟩]) .ret) (.seq (.draw [([⟨some 37,none,.mv (.tmp 0)⟩,⟨some 38,none,.nilck (.tmp 37)⟩,⟨some 39,none,.fAddr 0 (.tmp 38)⟩,⟨some 40,none,.load none (.tmp 39)⟩,⟨some 42,none,.mv (.tmp 0)⟩,⟨some 43,none,.nilck (.tmp 42)⟩,⟨some 44,none,.fAddr 6 (.tmp 43)⟩,⟨some 45,none,.fAddr 4 (.tmp 44)⟩,⟨some 46,none,.load (some 32) (.tmp 45)⟩],[⟨some 41,none,.call 37 [.tmp 40]⟩],[⟨some 46,none,.load (some 32) (.tmp 45)⟩]),([⟨some 47,none,.eqa true (ckl 32) (.tmp 41) (.tmp 46)⟩,⟨some 36,none,.mv (.tmp 47)⟩],[],[])]) (.cond (.tmp 36) (.seq (.ops [⟨some 48,none,.build z36 []⟩,⟨none,none,.store 36 (.tmp 2) (.tmp 48)⟩,⟨some 3,none,.mv (.const (.int .i64 7))⟩]) .ret) .skip))))))))) (.seq (.ops [⟨some 49,none,.mv (.tmp 0)⟩,⟨some 50,none,.nilck (.tmp 49)⟩,⟨some 51,none,.fAddr 6 (.tmp 50)⟩,⟨some 52,none,.load (some 36) (.tmp 51)⟩,⟨none,none,.store 36 (.tmp 2) (.tmp 52)⟩,⟨some 3,none,.mv (.const (.int .i64 0))⟩]) .ret))
theorem k14 : compR Tryz.prog Tryz.f14 = some (c14, [.c 2 (some 36), .t 3]) := by kernel_rfl
theorem n14 : Tryz.f14.ntmps = 53 := by kernel_rfl
variable [Nonempty GM]
theorem inew_ok (room fa fb fc : Int) (h : Heap) : ACalls Tryz.prog 9 [.int .i64 room, .agg (iv fa fb fc).toArray] h fun v h' => ∃ y b, v = .pointer (some ⟨y, 0, none⟩) ∧ h.n ≤ y ∧ h.n ≤ b ∧ InK y b none (it0 room fa fb fc) [] h' ∧ h.Sub h.n h' := by
  refine acalls_of mix Tryz.func9 k9 n9 (by simp) fun hcl hb => ?_
  have f0 := cellsOf_new h (iv fa fb fc) .ex 1
  have n0 : (h.push (.cells (iv fa fb fc) .ex 1)).n = h.n + 1 := rfl
  have hcl0 : (h.push (.cells (iv fa fb fc) .ex 1)).Closed := closed_push hcl iv_bel
  have k0 : ∀ u ob, h.m u = some ob → (h.push (.cells (iv fa fb fc) .ex 1)).m u = some ob := fun u ob e => by rw [push_m, if_neg (by have := (hcl u ob e).1; omega)]; exact e
  simp only [c9, s_seq, s_ops]
  simp [mc_iv, f0, acut_iv, apart, bs_lit]
  generalize h.push (.cells (iv fa fb fc) .ex 1) = H0 at *
  refine (digest_new_ok H0).mono' ?_
  rintro _ H1 hc1 _ ⟨b, rfl, hb0, d, s⟩
  have f1 : H1.cellsOf h.n = some (iv fa fb fc, .ex, 1) := cellsOf_keep s.sub f0
  have fil : ∀ z, afill [.pointer none, .int .i64 0, .int .i64 0, .int .i64 0, .int .i64 0, .string (bs []), .int .i64 0, .int .i64 0, .int .i64 0, .int .i64 0, .int .u8 0, .int .u8 0, .int .u8 0, .int .u8 0, .int .u8 0, .int .u8 0, .int .u8 0, .int .u8 0, .int .u8 0, .int .u8 0, .int .u8 0, .int .u8 0, .int .u8 0, .int .u8 0, .int .u8 0, .int .u8 0, .int .u8 0, .int .u8 0, .int .u8 0, .int .u8 0, .int .u8 0, .int .u8 0, .int .u8 0, .int .u8 0, .int .u8 0, .int .u8 0, .int .u8 0, .int .u8 0, .int .u8 0, .int .u8 0, .int .u8 0, .int .u8 0, .bool false, .int .i64 0] [(0, 1, .pointer (some ⟨b, 0, none⟩)), (1, 1, .int .i64 room), (2, 3, .agg (iv fa fb fc).toArray)] = some z → z = ic b (it0 room fa fb fc) := fun z hz => by
    have : afill [.pointer none, .int .i64 0, .int .i64 0, .int .i64 0, .int .i64 0, .string (bs []), .int .i64 0, .int .i64 0, .int .i64 0, .int .i64 0, .int .u8 0, .int .u8 0, .int .u8 0, .int .u8 0, .int .u8 0, .int .u8 0, .int .u8 0, .int .u8 0, .int .u8 0, .int .u8 0, .int .u8 0, .int .u8 0, .int .u8 0, .int .u8 0, .int .u8 0, .int .u8 0, .int .u8 0, .int .u8 0, .int .u8 0, .int .u8 0, .int .u8 0, .int .u8 0, .int .u8 0, .int .u8 0, .int .u8 0, .int .u8 0, .int .u8 0, .int .u8 0, .int .u8 0, .int .u8 0, .int .u8 0, .int .u8 0, .bool false, .int .i64 0] [(0, 1, .pointer (some ⟨b, 0, none⟩)), (1, 1, .int .i64 room), (2, 3, .agg (iv fa fb fc).toArray)] = some (ic b (it0 room fa fb fc)) := rfl
    rw [this] at hz; exact (Option.some.inj hz).symm
  have fil' : afill [.pointer none, .int .i64 0, .int .i64 0, .int .i64 0, .int .i64 0, .string (bs []), .int .i64 0, .int .i64 0, .int .i64 0, .int .i64 0, .int .u8 0, .int .u8 0, .int .u8 0, .int .u8 0, .int .u8 0, .int .u8 0, .int .u8 0, .int .u8 0, .int .u8 0, .int .u8 0, .int .u8 0, .int .u8 0, .int .u8 0, .int .u8 0, .int .u8 0, .int .u8 0, .int .u8 0, .int .u8 0, .int .u8 0, .int .u8 0, .int .u8 0, .int .u8 0, .int .u8 0, .int .u8 0, .int .u8 0, .int .u8 0, .int .u8 0, .int .u8 0, .int .u8 0, .int .u8 0, .int .u8 0, .int .u8 0, .bool false, .int .i64 0] [(0, 1, .pointer (some ⟨b, 0, none⟩)), (1, 1, .int .i64 room), (2, 3, .agg (iv fa fb fc).toArray)] = some (ic b (it0 room fa fb fc)) := rfl
  have mic : mcells (.agg (ic b (it0 room fa fb fc)).toArray) = some (ic b (it0 room fa fb fc)) := by simp [mcells]
  have hbn := (digK_lt hc1 d).1
  have hni := s.hi
  simp [f1, acut_iv, apart, fil', mic]
  have k1 : ∀ u ob, H1.m u = some ob → (H1.push (.cells (ic b (it0 room fa fb fc)) .ex 1)).m u = some ob := fun u ob e => by rw [push_m, if_neg (by have := (hc1 u ob e).1; omega)]; exact e
  refine ⟨by omega, b, by omega, ⟨cellsOf_new _ _ _ _, digK_keep d fun u ob e _ => k1 u ob e, by omega, (fun e => by cases e), z32_len⟩, ⟨Nat.le_refl _, by show h.n ≤ H1.n + 1; omega, fun u ob e => k1 u ob (s.sub u ob (k0 u ob e)), hcl⟩⟩
theorem ifinish_ok {y b : Nat} {nm : Option Nat} {x : It} {T : List UInt8} (h : Heap) (q : InK y b nm x T h) (hT : T.length ≤ 10000000) : ACalls Tryz.prog 14 [.pointer (some ⟨y, 0, none⟩)] h fun v h' => v = .tuple #[hv (finF x T).1, .int .i64 (finF x T).2] ∧ h' = h := by
  refine ACalls.same (vb_tup2 hv_below .int) (acalls_ofR mix Tryz.func14 k14 n14 (by simp) fun hcl hb => ?_)
  have hq : ∀ p, aeq .ptr (.pointer (some p)) (.pointer none) = some false := fun _ => rfl
  have hzl : zH.hs.length = 32 := z32_len
  have hlz := hc_len hzl
  have hfz : afill (hc zH) [] = some (hc zH) := rfl
  have hpx : ∀ z : Hd, z.hs.length = 32 → aput (hc zH) 0 (hc z) = hc z := fun z hz => by
    unfold aput
    rw [hc_len hz, List.drop_eq_nil_of_le (by rw [hlz]; omega)]
    simp
  have hpz := hpx zH hzl
  have hac : ∀ x : Hd, x.hs.length = 32 → acut (hc x) 0 36 = some (hc x) := fun x hx => acut_full (hc_len hx)
  have haz := hac zH hzl
  have hyn := cellsOf_lt hcl q.cy
  have k1 : ∀ u ob, h.m u = some ob → (h.push (.cells (hc zH) .ex 1)).m u = some ob := fun u ob e => by rw [push_m, if_neg (by have := (hcl u ob e).1; omega)]; exact e
  have q1 : InK y b nm x T (h.push (.cells (hc zH) .ex 1)) := q.keep fun u ob e _ => k1 u ob e
  have fz := cellsOf_new h (hc zH) .ex 1
  have e1 := (Heap.Ext.refl h).push hcl (.cells (hc zH) .ex 1)
  have e2 := (Heap.Ext.refl h).push hcl (.cells (hc x.hd) .ex 1)
  have f2 := cellsOf_new h (hc x.hd) .ex 1
  have hcy1 := q1.cy
  have hsame : (h.push (.cells (hc zH) .ex 1)).set h.n (.cells (hc zH) .ex 1) = h.push (.cells (hc zH) .ex 1) := set_push _ _ _
  have hset := set_push h (.cells (hc zH) .ex 1) (.cells (hc x.hd) .ex 1)
  simp only [c14, s_seq, s_ops]
  simp [hq, z36_eq]
  by_cases he : x.e = 0
  case neg =>
    have hF : finF x T = (zH, x.e) := if_pos he
    rw [hF]
    simp [he, hcy1, ic43 q.hl, apart, hfz, fz, m_hc, hlz, hpz, hsame, haz]
    exact ⟨rfl, e1⟩
  simp [he, hcy1, ic43 q.hl, apart]
  cases hbg : x.bg with
  | false =>
    have hF : finF x T = (zH, 13) := by unfold finF; rw [if_neg (by simp [he]), if_pos (.inl hbg)]
    rw [hF]
    simp [aun, hcy1, ic42 q.hl, apart, hbg, hfz, fz, m_hc, hlz, hpz, hsame, haz]
    exact ⟨rfl, e1⟩
  | true =>
    simp [aun, hcy1, ic42 q.hl, ic9, apart, hbg]
    refine (took_ok _ q1).mono ?_
    rintro _ h9 ⟨rfl, e⟩
    rw [e]; clear e h9
    by_cases hlt : (T.length : Int) < x.hd.n
    · have hF : finF x T = (zH, 13) := by unfold finF; rw [if_neg (by simp [he]), if_pos (.inr hlt)]
      rw [hF]
      simp [hlt, hcy1, ic9, apart, hfz, fz, m_hc, hlz, hpz, hsame, haz]
      exact ⟨rfl, e1⟩
    simp [hlt, hcy1, ic9, ic0, ic10 q.hl, apart]
    refine (dsum_ok b nm T _ q1.d (by omega)).mono ?_
    rintro _ h9 ⟨rfl, e⟩
    rw [e]; clear e h9
    have hdd : aeqL (ckl 32) (ubs (shaB T)) (ubs x.hd.hs) = some (decide (shaB T = x.hd.hs)) := by
      have := ubs_eqL (shaB T) x.hd.hs (by rw [shaB_len, q.hl])
      rw [shaB_len] at this; exact this
    by_cases hs : shaB T = x.hd.hs
    · have hF : finF x T = (x.hd, 0) := by unfold finF; rw [if_neg (by simp [he]), if_neg (by simp [hbg]; omega), if_neg (by simp [hs])]
      rw [hF]
      rw [decide_eq_true hs] at hdd
      simp [hdd, m_ubs, hcy1, ic6 q.hl, ic10 q.hl, apart, fz, f2, m_hc, hlz, hc_len q.hl, hpx x.hd q.hl, hset, hac x.hd q.hl]
      exact ⟨rfl, e2⟩
    · have hF : finF x T = (zH, 7) := by unfold finF; rw [if_neg (by simp [he]), if_neg (by simp [hbg]; omega), if_pos hs]
      rw [hF]
      rw [decide_eq_false hs] at hdd
      simp [hdd, m_ubs, hcy1, ic10 q.hl, apart, hfz, fz, m_hc, hlz, hpz, hsame, haz]
      exact ⟨rfl, e1⟩
def c6 : AC := .seq (.ops [⟨some 0,none,.mv (.const (.bool false))⟩]) (.seq (.ops [⟨some 9,none,.build [.int .i64 0,.int .i64 0,.int .i64 0] []⟩,⟨some 10,none,.call 23 [.tmp 9,.const (.string ⟨⟨[97,98,99]⟩⟩)]⟩,⟨some 1,none,.alloc z36⟩,⟨none,none,.store 36 (.tmp 1) (.tmp 10)⟩]) (.seq (.ops [⟨some 11,none,.build [.int .i64 0,.int .i64 0,.int .i64 0] []⟩,⟨some 12,none,.call 9 [.const (.int .i64 100),.tmp 11]⟩,⟨some 2,none,.mv (.tmp 12)⟩]) (.seq (.ops [⟨some 14,none,.mv (.tmp 2)⟩,⟨some 15,none,.load (some 36) (.tmp 1)⟩,⟨some 16,none,.call 24 [.tmp 15]⟩,⟨some 17,none,.buildS 2 [.string ⟨⟨[]⟩⟩,.string ⟨⟨[]⟩⟩] [(0,1,.tmp 16),(1,1,.const (.string ⟨⟨[97,98]⟩⟩))]⟩,⟨some 18,none,.call 10 [.tmp 14,.tmp 17]⟩,⟨some 13,none,.mv (.tmp 18)⟩,⟨some 19,none,.extr (.tmp 13) 0⟩,⟨some 20,none,.extr (.tmp 13) 1⟩,⟨some 3,none,.mv (.tmp 19)⟩,⟨some 4,none,.mv (.tmp 20)⟩]) (.seq (.ops [⟨some 22,none,.mv (.tmp 2)⟩,⟨some 23,none,.buildS 1 [.string ⟨⟨[]⟩⟩] [(0,1,.const (.string ⟨⟨[99]⟩⟩))]⟩,⟨some 24,none,.call 10 [.tmp 22,.tmp 23]⟩,⟨some 21,none,.mv (.tmp 24)⟩,⟨some 25,none,.extr (.tmp 21) 0⟩,⟨some 26,none,.extr (.tmp 21) 1⟩,⟨some 5,none,.mv (.tmp 25)⟩,⟨some 6,none,.mv (.tmp 26)⟩]) (.seq (.ops [⟨some 28,none,.mv (.tmp 2)⟩,⟨some 29,none,.call 14 [.tmp 28]⟩,⟨some 27,none,.mv (.tmp 29)⟩,⟨some 30,none,.extr (.tmp 27) 0⟩,⟨some 31,none,.extr (.tmp 27) 1⟩,⟨some 7,none,.alloc z36⟩,⟨none,none,.store 36 (.tmp 7) (.tmp 30)⟩,⟨some 8,none,.mv (.tmp 31)⟩]) (.seq (.ops [⟨some 32,none,.mv (.tmp 3)⟩,⟨some 33,none,.bin .eql (.tmp 32) (.const (.string ⟨⟨[97,98]⟩⟩))⟩,⟨some 34,none,.mv (.tmp 33)⟩,⟨some 35,some (34,true),.mv (.tmp 5)⟩,⟨some 36,some (34,true),.bin .eql (.tmp 35) (.const (.string ⟨⟨[99]⟩⟩))⟩,⟨some 37,none,.pick (.tmp 34) (.tmp 36) (.const (.bool false))⟩,⟨some 38,none,.mv (.tmp 37)⟩,⟨some 39,some (38,true),.mv (.tmp 4)⟩,⟨some 40,some (38,true),.bin .eql (.tmp 39) (.const (.int .i64 0))⟩,⟨some 41,none,.pick (.tmp 38) (.tmp 40) (.const (.bool false))⟩,⟨some 42,none,.mv (.tmp 41)⟩,⟨some 43,some (42,true),.mv (.tmp 6)⟩,⟨some 44,some (42,true),.bin .eql (.tmp 43) (.const (.int .i64 0))⟩,⟨some 45,none,.pick (.tmp 42) (.tmp 44) (.const (.bool false))⟩,⟨some 46,none,.mv (.tmp 45)⟩,⟨some 47,some (46,true),.load (some 36) (.tmp 7)⟩,⟨some 48,some (46,true),.load (some 36) (.tmp 1)⟩,⟨some 49,some (46,true),.eqa false (ckl 36) (.tmp 47) (.tmp 48)⟩,⟨some 50,none,.pick (.tmp 46) (.tmp 49) (.const (.bool false))⟩,⟨some 51,none,.mv (.tmp 50)⟩,⟨some 52,some (51,true),.mv (.tmp 8)⟩,⟨some 53,some (51,true),.bin .eql (.tmp 52) (.const (.int .i64 0))⟩,⟨some 54,none,.pick (.tmp 51) (.tmp 53) (.const (.bool false))⟩,⟨some 0,none,.mv (.tmp 54)⟩]) .ret))))))
theorem k6 : compF Tryz.prog Tryz.f6 = some (c6, [0]) := by kernel_rfl
theorem n6 : Tryz.f6.ntmps = 55 := by kernel_rfl
variable [Nonempty GM]
theorem splF_text (y : Hd) (r : List UInt8) : splF (mText y ++ r) = (mText y, r, true) := by
  have k := mText_splV y r (splF_V (mText y ++ r))
  simp only [sv, Value.tuple.injEq, Array.mk.injEq, List.cons.injEq, Value.string.injEq, Value.bool.injEq, and_true, bs_inj] at k
  obtain ⟨k1, k2, k3⟩ := k
  exact Prod.ext k1 (Prod.ext k2 k3)
def xB : Hd := ⟨0, 0, 0, 3, shaB [97, 98, 99]⟩
theorem xB_len : xB.hs.length = 32 := shaB_len _
theorem xB_right : rightH xB := by
  refine ⟨fun j hj => ?_, by decide, by decide⟩
  match j, hj with
  | 0, _ => exact (by unfold rng xB Hd.vs; decide)
  | 1, _ => exact (by unfold rng xB Hd.vs; decide)
  | 2, _ => exact (by unfold rng xB Hd.vs; decide)
def itB : It := ⟨100, 0, 0, 0, mText xB, xB, true, 0⟩
theorem feedB1 : feedF (it0 100 0 0 0) [] (mText xB ++ [97, 98]) = ((itB, [97, 98]), ([97, 98], 0)) := by
  have hb : beginF { it0 100 0 0 0 with text := mText xB } (mText xB) = (itB, 0) := by
    unfold beginF
    rw [parF_text xB_right xB_len]
    rw [if_neg (by simp), if_neg (by simp [it0, xB]), if_neg (by simp [it0, xB, vlt])]
    rfl
  have hb' : beginF ⟨100, 0, 0, 0, mText xB, zH, false, 0⟩ (mText xB) = (itB, 0) := hb
  unfold feedF
  rw [if_neg (by simp [it0]), if_neg (by simp [it0])]
  simp only [it0, List.nil_append, splF_text]
  rw [if_neg (by simp), hb', if_neg (by simp)]
  unfold takeFI
  rw [if_neg (by simp [itB, xB])]
  rfl
theorem feedB2 : feedF itB [97, 98] [99] = ((itB, [97, 98, 99]), ([99], 0)) := by
  unfold feedF
  rw [if_neg (by simp [itB]), if_pos (show itB.bg = true from rfl)]
  unfold takeFI
  rw [if_neg (by simp [itB, xB])]
  rfl
theorem finB : finF itB [97, 98, 99] = (xB, 0) := by
  unfold finF
  rw [if_neg (by simp [itB]), if_neg (by simp [itB, xB]), if_neg (by simp [itB, xB])]
  rfl
theorem awake20_ok (h : Heap) : ACalls Tryz.prog 6 [] h fun v h' => v = .bool true ∧ h' = h := by
  refine ACalls.same .bool (acalls_of mix Tryz.func6 k6 n6 (by simp) fun hcl hb => ?_)
  have fil3 : afill [.int .i64 0, .int .i64 0, .int .i64 0] [] = some [.int .i64 0, .int .i64 0, .int .i64 0] := rfl
  have h3 : (.agg #[.int .i64 0, .int .i64 0, .int .i64 0] : Value) = .agg (iv 0 0 0).toArray := rfl
  have hsv : ∀ l, sv l = .string (bs l) := fun _ => rfl
  have hzl : zH.hs.length = 32 := z32_len
  have hlz := hc_len hzl
  have hfz : afill (hc zH) [] = some (hc zH) := rfl
  have hpx : ∀ z : Hd, z.hs.length = 32 → aput (hc zH) 0 (hc z) = hc z := fun z hz => by
    unfold aput
    rw [hc_len hz, List.drop_eq_nil_of_le (by rw [hlz]; omega)]
    simp
  have hac : ∀ x : Hd, x.hs.length = 32 → acut (hc x) 0 36 = some (hc x) := fun x hx => acut_full (hc_len hx)
  have fz := cellsOf_new h (hc zH) .ex 1
  have f1 := cellsOf_new h (hc xB) .ex 1
  have e1 := (Heap.Ext.refl h).push hcl (.cells (hc xB) .ex 1)
  have n1 : (h.push (.cells (hc xB) .ex 1)).n = h.n + 1 := rfl
  have c1 : (h.push (.cells (hc xB) .ex 1)).Closed := closed_push hcl hc_bel
  simp only [c6, s_seq, s_ops]
  simp [bs_lit, fil3]
  refine (hof_ok 0 0 0 [97, 98, 99] (by simp) h).mono ?_
  rintro _ h9 ⟨rfl, e⟩
  rw [e]; clear e h9
  have hxB : (⟨0, 0, 0, (([97, 98, 99] : List UInt8).length : Int), shaB [97, 98, 99]⟩ : Hd) = xB := rfl
  rw [hxB]
  have hlB := hc_len xB_len
  simp [z36_eq, hfz, fz, m_hv, m_hc, hlz, hlB, hpx xB xB_len, set_push, fil3]
  generalize h.push (.cells (hc xB) .ex 1) = H1 at *
  refine (inew_ok 100 0 0 0 H1).mono' ?_
  rintro _ H2 hc2 _ ⟨y, b, rfl, hy, hbb, q2, s2⟩
  have f2 := cellsOf_keep s2.sub f1
  have hn2 := s2.hi
  simp [f2, hac xB xB_len, apart]
  refine (mTextF_ok xB xB_len H2).mono ?_
  rintro _ h9 ⟨rfl, e⟩
  rw [e]; clear e h9
  rw [if_pos xB_right]
  have fil : ∀ a c : List UInt8, afill [.string (bs []), .string (bs [])] [(0, 1, .string (bs a)), (1, 1, .string (bs c))] = some [.string (bs a), .string (bs c)] := fun _ _ => rfl
  have fil1 : ∀ a : List UInt8, afill [.string (bs [])] [(0, 1, .string (bs a))] = some [.string (bs a)] := fun _ => rfl
  have hl140 := mText_len xB_len xB_right
  have hpos := mText_pos xB
  simp [hsv, fil, bs_lit]
  have hj : SlJ (H2.push (.cells [.string (bs (mText xB)), .string (bs [97, 98])] .ex 1)) (.slice (some ⟨H2.n, 0, none⟩) 2 2) [mText xB, [97, 98]] :=
    ⟨H2.n, 0, 2, _, .ex, 1, rfl, cellsOf_new _ _ _ _, fun _ => rfl, by simp, by simp, fun i hi => by
      match i, hi with
      | 0, _ => rfl
      | 1, _ => rfl⟩
  have k3 : ∀ u ob, H2.m u = some ob → (H2.push (.cells [.string (bs (mText xB)), .string (bs [97, 98])] .ex 1)).m u = some ob := fun u ob e => by rw [push_m, if_neg (by have := (hc2 u ob e).1; omega)]; exact e
  have q3 := q2.keep (H' := H2.push (.cells [.string (bs (mText xB)), .string (bs [97, 98])] .ex 1)) fun u ob e _ => k3 u ob e
  have n3 : (H2.push (.cells [.string (bs (mText xB)), .string (bs [97, 98])] .ex 1)).n = H2.n + 1 := rfl
  generalize H2.push (.cells [.string (bs (mText xB)), .string (bs [97, 98])] .ex 1) = H3 at *
  refine (ifeed_ok [mText xB, [97, 98]] (mText xB ++ [97, 98]) _ H3 q3 (by simp [it0, zH]) (by simp) (by simp [it0]) (by simp [joinB]) hj (by simp) (by simp) (.inl (by simp [sumL])) (by simp [sumL]; omega) (by simp; omega)).mono' ?_
  rintro _ H4 hc4 _ ⟨rfl, nm4, q4, f4, m4⟩
  rw [feedB1] at q4 ⊢
  dsimp only at q4 ⊢
  simp [hsv, fil1, bs_lit]
  have hnm4 : ∀ u, nm4 = some u → H3.n ≤ u := fun u e => by
    rcases m4 with m4 | ⟨z, m4, m5⟩
    · rw [m4] at e; cases e
    · rw [m4] at e; cases e; exact m5
  have hj5 : SlJ (H4.push (.cells [.string (bs [99])] .ex 1)) (.slice (some ⟨H4.n, 0, none⟩) 1 1) [[99]] :=
    ⟨H4.n, 0, 1, _, .ex, 1, rfl, cellsOf_new _ _ _ _, fun _ => rfl, by simp, by simp, fun i hi => by
      match i, hi with
      | 0, _ => rfl⟩
  have k5 : ∀ u ob, H4.m u = some ob → (H4.push (.cells [.string (bs [99])] .ex 1)).m u = some ob := fun u ob e => by rw [push_m, if_neg (by have := (hc4 u ob e).1; omega)]; exact e
  have q5 := q4.keep (H' := H4.push (.cells [.string (bs [99])] .ex 1)) fun u ob e _ => k5 u ob e
  have n5 : (H4.push (.cells [.string (bs [99])] .ex 1)).n = H4.n + 1 := rfl
  generalize H4.push (.cells [.string (bs [99])] .ex 1) = H5 at *
  refine (ifeed_ok [[99]] [99] _ H5 q5 (by simp [itB, xB]) (by simp) (by simp [itB]; omega) (by simp [joinB]) hj5 (by simp) (by simp) (.inr rfl) (by simp [sumL]) (by simp)).mono' ?_
  rintro _ H6 hc6 _ ⟨rfl, nm6, q6, f6, m6⟩
  rw [feedB2] at q6 ⊢
  dsimp only at q6 ⊢
  simp [hsv]
  refine (ifinish_ok H6 q6 (by simp)).mono ?_
  rintro _ h9 ⟨rfl, e⟩
  rw [e]; clear e h9
  rw [finB]
  have hyl : h.n < y := by omega
  have hbl : h.n < b := by omega
  have hE : ∀ u ob, H1.m u = some ob → H6.m u = some ob := fun u ob e => by
    have hu := (c1 u ob e).1
    exact f6.2 u ob (k5 u ob (f4.2 u ob (k3 u ob (s2.sub u ob e)) (by omega) (by omega) (by simp))) (by omega) (by omega) (fun k => by have := hnm4 u k; omega)
  have fin6 := cellsOf_keep hE f1
  have hn6 : H1.n ≤ H6.n := by
    have := f4.1
    have := f6.1
    omega
  have fz6 := cellsOf_new H6 (hc zH) .ex 1
  have fx6 := cellsOf_new H6 (hc xB) .ex 1
  have fin7 : ∀ o, (H6.push o).cellsOf h.n = some (hc xB, .ex, 1) := fun o => by rw [cellsOf_ne (by omega)]; exact fin6
  have hd := hc_dec xB_len xB_len
  have hE6 : h.Ext H6 := ⟨by omega, fun u ob e => hE u ob (e1.m u ob e)⟩
  simp [z36_eq, hfz, fz6, m_hv, m_hc, hlz, hlB, hpx xB xB_len, set_push, fx6, fin7, hac xB xB_len, apart, hd]
  exact hE6.push hcl _
end Go.Proofs.YtofoihlcjmghfaaGreatDoor.inta

