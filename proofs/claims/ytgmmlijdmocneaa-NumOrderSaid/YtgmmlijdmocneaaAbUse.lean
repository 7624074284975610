/-
  Ab: words for contracts: frames as lists, loops, heaps with a few blocks more, slices that read as lists.
-/
import Derived.Test.YtgmmlijdmocneaaAbSound12
set_option linter.unusedSimpArgs false
set_option linter.unusedVariables false
namespace Go.Ab
open Go.RowKit

/-- a frame of which a few slots are known -/
def mkF : List (Nat × Value) → AF
  | [], _ => unk
  | (t, v) :: l, i => if i = t then v else mkF l i

theorem mask_mkF {n : Nat} {f : AF} : ∀ {l : List (Nat × Value)}, (∀ p ∈ l, f p.1 = p.2 ∧ VBelow n p.2) → Mask n (mkF l) f
  | [], _ => fun i => .inl rfl
  | (t, v) :: l, h => fun i => by
    unfold mkF
    by_cases hi : i = t
    · rw [if_pos hi]
      have := h (t, v) (by simp)
      exact .inr ⟨by rw [hi]; exact this.1.symm, this.2⟩
    · rw [if_neg hi]
      exact mask_mkF (fun p hp => h p (by simp [hp])) i

theorem aopK_mono {P : Program} {k : AK} {f : AF} {h : Heap} {K K' : Value → Heap → Prop} (hk : ∀ v h, K v h → K' v h) (hh : aopK P k f h K) : aopK P k f h K' := by
  unfold aopK at *
  split at hh
  · exact hh.mono hk
  · split at hh
    · exact ⟨hh.1, hh.2.mono hk⟩
    · exact hh
  · split at hh
    · exact hk _ _ hh
    · exact hh

theorem awpL_mono {P : Program} {K K' : AF → Heap → Prop} (hk : ∀ f h, K f h → K' f h) : ∀ {l : List AOper} {f : AF} {h : Heap}, awpL P l f h K → awpL P l f h K'
  | [], _, _, hh => hk _ _ hh
  | ⟨d, none, k⟩ :: r, f, h, hh => by
    simp only [awpL] at hh ⊢
    exact aopK_mono (fun v h q => awpL_mono hk q) hh
  | ⟨d, some (t, want), k⟩ :: r, f, h, hh => by
    simp only [awpL] at hh ⊢
    split at hh
    · exact ⟨fun hb => aopK_mono (fun v h q => awpL_mono hk q) (hh.1 hb), fun hb => awpL_mono hk (hh.2 hb)⟩
    · exact awpL_mono hk hh
    · exact hh

theorem awpD_mono {P : Program} {K K' : AF → Heap → Prop} (hk : ∀ f h, K f h → K' f h) : ∀ {st : List (List AOper × List AOper × List AOper)} {f : AF} {h : Heap}, awpD P st f h K → awpD P st f h K'
  | [], _, _, hh => hk _ _ hh
  | (e, w, rc) :: r, f, h, hh => by
    simp only [awpD] at hh ⊢
    exact awpL_mono (fun f h q => awpL_mono (fun f h q => ⟨q.1, awpD_mono hk q.2⟩) q) hh

theorem awp_mono {P : Program} {n0 : Nat} : ∀ {c : AC} {Q Q' : AQ} {f : AF} {h : Heap}, (∀ e f h, Q e f h → Q' e f h) → awp P n0 c Q f h → awp P n0 c Q' f h
  | .ops l, Q, Q', f, h, hq, hh => awpL_mono (fun f h q => hq _ _ _ q) hh
  | .draw st, Q, Q', f, h, hq, hh => awpD_mono (fun f h q => hq _ _ _ q) hh
  | .seq a b, Q, Q', f, h, hq, hh => awp_mono (c := a) (fun e f h q => by
      cases e with
      | normal => exact awp_mono (c := b) hq q
      | _ => exact hq _ _ _ q) hh
  | .cond c a b, Q, Q', f, h, hq, hh => by
    simp only [awp] at hh ⊢
    split at hh
    · exact ⟨fun e => awp_mono (c := a) hq (hh.1 e), fun e => awp_mono (c := b) hq (hh.2 e)⟩
    · exact hh
  | .block id c, Q, Q', f, h, hq, hh => awp_mono (c := c) (fun e f h q => by
      cases e with
      | exit id' =>
        simp only [ablock] at q ⊢
        split
        · rename_i hi; rw [if_pos hi] at q; exact hq _ _ _ q
        · rename_i hi; rw [if_neg hi] at q; exact hq _ _ _ q
      | _ => exact hq _ _ _ q) hh
  | .loop c, Q, Q', f, h, hq, hh => by
    obtain ⟨I, hi, hr⟩ := hh
    refine ⟨I, hi, fun n f h i => awp_mono (c := c) (fun e f h q => ?_) (hr n f h i)⟩
    cases e with
    | normal => exact q
    | _ => exact hq _ _ _ q
  | .exit id, Q, Q', f, h, hq, hh => hq _ _ _ hh
  | .ret, Q, Q', f, h, hq, hh => hq _ _ _ hh
  | .skip, Q, Q', f, h, hq, hh => hq _ _ _ hh

section
variable {P : Program} {n0 : Nat} {Q : AQ} {f : AF} {h : Heap} {c : AC}

/-- a loop, by states x with a measure -/
theorem awp_loop_of {α : Type} (Inv : α → Prop) (F : α → List (Nat × Value)) (H : α → Heap) (meas : α → Nat) (x0 : α) (hi : Inv x0) (hs : (H x0).Sub n0 h) (hm : ∀ p ∈ F x0, f p.1 = p.2 ∧ VBelow (H x0).n p.2)
    (round : ∀ x, Inv x → awp P n0 c (athen (fun f' h' => ∃ y, meas y < meas x ∧ Inv y ∧ (H y).Sub n0 h' ∧ ∀ p ∈ F y, f' p.1 = p.2 ∧ VBelow (H y).n p.2) Q) (mkF (F x)) (H x)) : awp P n0 (.loop c) Q f h := by
  refine ⟨fun n f h => ∃ x, Inv x ∧ meas x = n ∧ f = mkF (F x) ∧ h = H x, ⟨meas x0, mkF (F x0), H x0, ⟨x0, hi, rfl, rfl, rfl⟩, hs, mask_mkF hm⟩, ?_⟩
  rintro n f h ⟨x, hix, rfl, rfl, rfl⟩
  have := round x hix
  refine awp_mono ?_ this
  intro e f h q
  cases e with
  | normal =>
    obtain ⟨y, hlt, hiy, hs, hm⟩ := q
    exact ⟨meas y, _, _, hlt, ⟨y, hiy, rfl, rfl, rfl⟩, hs, mask_mkF hm⟩
  | _ => exact q
end

/-! heaps: what is known of a block -/
@[simp] theorem push_n (h : Heap) (o : AObj) : (h.push o).n = h.n + 1 := rfl
@[simp] theorem set_n (h : Heap) (b : Nat) (o : AObj) : (h.set b o).n = h.n := rfl
@[simp] theorem kill_n (h : Heap) (b : Nat) : (h.kill b).n = h.n := rfl
theorem push_m (h : Heap) (o : AObj) (b : Nat) : (h.push o).m b = if b = h.n then some o else h.m b := rfl
theorem set_m (h : Heap) (b : Nat) (o : AObj) (b' : Nat) : (h.set b o).m b' = if b' = b then some o else h.m b' := rfl
theorem kill_m (h : Heap) (b b' : Nat) : (h.kill b).m b' = if b' = b then none else h.m b' := rfl

theorem Heap.Closed.none {h : Heap} (hc : h.Closed) {b : Nat} (hb : h.n ≤ b) : h.m b = none := by
  cases hm : h.m b with
  | none => rfl
  | some o => have := (hc b o hm).1; omega

theorem Heap.Sub.refl {h : Heap} (hc : h.Closed) : h.Sub h.n h := ⟨Nat.le_refl _, Nat.le_refl _, fun _ _ e => e, hc⟩

theorem AObj.Below.mono {o : AObj} {n m : Nat} (h : o.Below n) (hle : n ≤ m) : o.Below m := by
  cases o with
  | cells c md e => exact fun v hv => (h v hv).mono hle
  | map es cl => exact fun e he => ⟨(h e he).1.mono hle, (h e he).2.mono hle⟩
  | strIter s p => trivial
  | mapIter m a b c => exact fun b hb => by have := h b hb; omega

theorem closed_push {h : Heap} {o : AObj} (hc : h.Closed) (ho : o.Below (h.n + 1)) : (h.push o).Closed := by
  intro b o' e
  rw [push_m] at e
  split at e
  · cases e; exact ⟨by simp; omega, ho⟩
  · have := hc b o' e; exact ⟨by simp; omega, this.2.mono (by simp)⟩
theorem closed_set {h : Heap} {b : Nat} {o : AObj} (hc : h.Closed) (hb : b < h.n) (ho : o.Below h.n) : (h.set b o).Closed := by
  intro b' o' e
  rw [set_m] at e
  split at e
  · cases e; rename_i hb'; subst hb'; exact ⟨hb, ho⟩
  · exact hc b' o' e

/-- the heap h, and a block b (from h.n on), and room for names below n -/
def Heap.with1 (h : Heap) (b : Nat) (o : AObj) (n : Nat) : Heap := ⟨fun b' => if b' = b then some o else h.m b', n⟩
@[simp] theorem with1_n (h : Heap) (b : Nat) (o : AObj) (n : Nat) : (h.with1 b o n).n = n := rfl
theorem with1_m (h : Heap) (b : Nat) (o : AObj) (n b' : Nat) : (h.with1 b o n).m b' = if b' = b then some o else h.m b' := rfl
theorem closed_with1 {h : Heap} {b : Nat} {o : AObj} {n : Nat} (hc : h.Closed) (hb : b < n) (hn : h.n ≤ n) (ho : o.Below n) : (h.with1 b o n).Closed := by
  intro b' o' e
  rw [with1_m] at e
  split at e
  · cases e; rename_i hb'; subst hb'; exact ⟨hb, ho⟩
  · have := hc b' o' e; exact ⟨by show _ < n; omega, this.2.mono hn⟩

/-! cells of numbers -/
theorem vbelow_ints {n : Nat} {k : IntKind} {α : Type} (g : α → Int) (l : List α) : ∀ v ∈ l.map (fun x => Value.int k (g x)), VBelow n v := by
  intro v hv
  obtain ⟨x, _, rfl⟩ := List.mem_map.1 hv
  exact .int

/-- a slice of one-cell elements that reads as a list -/
def Sl {α : Type} (enc : α → Value) (h : Heap) (v : Value) (l : List α) : Prop :=
  (∃ c, v = .slice none 0 c ∧ l = []) ∨ ∃ b o cap c m e, v = .slice (some ⟨b, o, none⟩) l.length cap ∧ h.cellsOf b = some (c, m, e) ∧ l.length ≤ cap ∧ o + l.length ≤ c.length ∧ ∀ i (hi : i < l.length), c[o + i]? = some (enc l[i])


/-! a heap, and at most one block of one's own -/
def Heap.upto (h : Heap) (n : Nat) : Heap := ⟨h.m, n⟩
@[simp] theorem upto_n (h : Heap) (n : Nat) : (h.upto n).n = n := rfl
@[simp] theorem upto_m (h : Heap) (n b : Nat) : (h.upto n).m b = h.m b := rfl
theorem closed_upto {h : Heap} {n : Nat} (hc : h.Closed) (hn : h.n ≤ n) : (h.upto n).Closed := by
  intro b o e
  have := hc b o e
  exact ⟨by show b < n; omega, this.2.mono hn⟩

/-- what a function has appended to so far: nothing, or a block of its own -/
def Own (h0 : Heap) (esz : Nat) (len : Nat) (cells : List Value) (v : Value) (H : Heap) : Prop :=
  h0.n ≤ H.n ∧ ((v = .slice none 0 0 ∧ cells = [] ∧ len = 0 ∧ H = h0.upto H.n) ∨
    ∃ nm, h0.n ≤ nm ∧ nm < H.n ∧ v = .slice (some ⟨nm, 0, none⟩) len len ∧ cells.length = len * esz ∧ H = h0.with1 nm (.cells cells .loose esz) H.n)

theorem Own.start (h0 : Heap) (esz : Nat) : Own h0 esz 0 [] (.slice none 0 0) h0 := ⟨Nat.le_refl _, .inl ⟨rfl, rfl, rfl, rfl⟩⟩

theorem Own.closed {h0 H : Heap} {esz len : Nat} {cells : List Value} {v : Value} (o : Own h0 esz len cells v H) (hc : h0.Closed) (hb : ∀ x ∈ cells, VBelow h0.n x) : H.Closed := by
  obtain ⟨hn, ⟨_, _, _, hH⟩ | ⟨nm, h1, h2, _, _, hH⟩⟩ := o
  · rw [hH]; exact closed_upto hc hn
  · rw [hH]; exact closed_with1 hc h2 hn (fun x hx => (hb x hx).mono hn)

theorem Own.below {h0 H : Heap} {esz len : Nat} {cells : List Value} {v : Value} (o : Own h0 esz len cells v H) : VBelow H.n v := by
  obtain ⟨hn, ⟨rfl, _, _, _⟩ | ⟨nm, h1, h2, rfl, _, _⟩⟩ := o
  · exact .snil
  · exact .slice h2

/-- old blocks are as they were -/
theorem Own.old {h0 H : Heap} {esz len : Nat} {cells : List Value} {v : Value} (o : Own h0 esz len cells v H) {b : Nat} (hb : b < h0.n) : H.m b = h0.m b := by
  obtain ⟨hn, ⟨_, _, _, hH⟩ | ⟨nm, h1, h2, _, _, hH⟩⟩ := o
  · rw [hH]; rfl
  · rw [hH, with1_m, if_neg (by omega)]

/-- an append to what is one's own, in a heap H' that has it still: the answer, and that it is one's own -/
theorem Own.app {h0 H H' : Heap} {esz bytes len k : Nat} {cells new : List Value} {v : Value} (o : Own h0 esz len cells v H) (hc : h0.Closed)
    (hle : H.n ≤ H'.n) (hext : ∀ b, b < H.n → H'.m b = H.m b) (hk : 0 < k) (hnew : new.length = k * esz) (hsm : (len + k) * (bytes + 1) ≤ 1099511627776) :
    ∃ a c, v = .slice a len c ∧ ∃ v2 H2 H3, aapp H' esz bytes a len c new k = some (v2, H2) ∧ Own h0 esz (len + k) (cells ++ new) v2 H3 ∧ H3.n = H2.n ∧ (∀ b o, H3.m b = some o → H2.m b = some o) := by
  obtain ⟨hn, ⟨rfl, rfl, rfl, hH⟩ | ⟨nm, h1, h2, rfl, hcl, hH⟩⟩ := o
  · refine ⟨none, 0, rfl, .slice (some ⟨H'.n, 0, none⟩) k k, H'.push (.cells new .loose esz), h0.with1 H'.n (.cells new .loose esz) (H'.n + 1), ?_, ⟨by show h0.n ≤ H'.n + 1; omega, .inr ⟨H'.n, by omega, by show H'.n < H'.n + 1; omega, by simp, by simpa using hnew, by simp⟩⟩, rfl, fun b ob e => ?_⟩
    · simp only [Nat.zero_add] at hsm
      unfold aapp
      simp only [Nat.zero_add]
      rw [if_pos ⟨hsm, hnew⟩]
      simp [show k ≠ 0 by omega]
    · rw [with1_m] at e
      rw [push_m]
      split at e
      · rename_i hb; rw [if_pos hb]; exact e
      · rename_i hb
        rw [if_neg hb]
        have := (hc b ob e).1
        rw [hext b (by omega), hH]
        exact e
  · have hcell : H'.cellsOf nm = some (cells, .loose, esz) := by
      unfold Heap.cellsOf
      rw [hext nm h2, hH, with1_m, if_pos rfl]
    refine ⟨some ⟨nm, 0, none⟩, len, rfl, .slice (some ⟨H'.n, 0, none⟩) (len + k) (len + k), (H'.kill nm).push (.cells (cells ++ new) .loose esz), h0.with1 H'.n (.cells (cells ++ new) .loose esz) (H'.n + 1), ?_,
      ⟨by show h0.n ≤ H'.n + 1; omega, .inr ⟨H'.n, by omega, by show H'.n < H'.n + 1; omega, rfl, by simp [hcl, hnew, Nat.add_mul], rfl⟩⟩, rfl, fun b ob e => ?_⟩
    · unfold aapp
      dsimp only
      rw [if_pos ⟨hsm, hnew⟩, hcell]
      simp only [if_true]
      have hcut : acut cells 0 (len * esz) = some cells := by
        unfold acut
        rw [if_pos (by omega)]
        simp [← hcl]
      rw [hcut]
      simp only
      rw [if_neg (by omega), if_pos (by omega)]
    · rw [with1_m] at e
      rw [push_m, kill_n]
      split at e
      · rename_i hb; rw [if_pos hb]; exact e
      · rename_i hb
        rw [if_neg hb, kill_m]
        have := (hc b ob e).1
        rw [if_neg (by omega), hext b (by omega), hH, with1_m, if_neg (by omega)]
        exact e

end Go.Ab
