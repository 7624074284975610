/-
 Contracts.
-/
import Derived.Test.YtdnmkenamgfjoaaGreatArbl
import Derived.IntWalk
import Derived.KernelRfl
set_option linter.unusedSimpArgs false
set_option linter.unusedVariables false
set_option linter.unusedSectionVars false
namespace Go.Proofs.YtdnmkenamgfjoaaGreat.arbm
open Go Go.Ab Go.Proofs Go.RowKit Go.Proofs.YtdnmkenamgfjoaaGreat.str Go.Proofs.YtdnmkenamgfjoaaGreat.vers Go.Proofs.YtdnmkenamgfjoaaGreat.lin1 Go.Proofs.YtdnmkenamgfjoaaGreat.sha Go.Proofs.YtdnmkenamgfjoaaGreat.arba Go.Proofs.YtdnmkenamgfjoaaGreat.arbb Go.Proofs.YtdnmkenamgfjoaaGreat.arbc Go.Proofs.YtdnmkenamgfjoaaGreat.arbd Go.Proofs.YtdnmkenamgfjoaaGreat.arbe Go.Proofs.YtdnmkenamgfjoaaGreat.arbf Go.Proofs.YtdnmkenamgfjoaaGreat.arbg Go.Proofs.YtdnmkenamgfjoaaGreat.arbi Go.Proofs.YtdnmkenamgfjoaaGreat.arbj Go.Proofs.YtdnmkenamgfjoaaGreat.arbk Go.Proofs.YtdnmkenamgfjoaaGreat.arbl
variable [Inhabited TabBox]
variable [Nonempty GF]
variable [Nonempty GE]
set_option maxRecDepth 100000
theorem sx_ge {a : List UInt8} {f : Nat → UInt8} {N : Nat} (h : a.length ≤ N) : Pl.sx N (fun j => Pl.gm (a.getD j 0) (f j)) = Pl.sx a.length fun j => Pl.gm (a.getD j 0) (f j) := by
 obtain ⟨d, hd⟩ : ∃ d, N = a.length + d := ⟨N - a.length, by omega⟩
 rw [hd]
 exact sx_cut _ a.length d fun j h1 _ => by rw [Pl.getD_ge h1, Pl.zero_gm]
theorem gapF_N {a s : List UInt8} {r N : Nat} (h : a.length ≤ N) : gapF a s r = Pl.sx N fun j => Pl.gm (a.getD j 0) (atF s ((r : Int) - 1 - (j : Int))) := (sx_ge h).symm
theorem gapF_plus (a b s : List UInt8) (y : UInt8) (r : Nat) : gapF (Pl.plusF a b y) s (r + 1) = gapF a s (r + 1) ^^^ Pl.gm y (gapF b s r) := by
 have hl := Pl.plusF_len a b y
 have h1 : (Pl.plusF a b y).length ≤ (max a.length b.length) + 1 := by rw [hl]; omega
 rw [gapF_N h1, gapF_N (a := a) (N := max a.length b.length + 1) (by omega), gapF_N (a := b) (N := max a.length b.length) (by omega), Pl.sx_shift, Pl.sx_shift, Pl.plusF_get0, ← Pl.sx_gm, UInt8.xor_assoc, ← Pl.sx_xor]
 congr 1
 refine Pl.sx_ext fun j _ => ?_
 rw [Pl.plusF_get, Pl.xor_gm, Pl.gm_assoc]
 congr 4
 omega
theorem gapF_shift (b s : List UInt8) (r : Nat) : gapF (0 :: b) s (r + 1) = gapF b s r := by
 unfold gapF
 rw [List.length_cons, Pl.sx_shift]
 have h0 : Pl.gm ((0 :: b).getD 0 0) (atF s (((r + 1 : Nat) : Int) - 1 - ((0 : Nat) : Int))) = 0 := Pl.zero_gm _
 rw [h0, UInt8.zero_xor]
 refine Pl.sx_ext fun j _ => ?_
 show Pl.gm (b.getD j 0) _ = _
 congr 2
 omega
theorem gapF_scale (b s : List UInt8) (y : UInt8) (r : Nat) : gapF (b.map (Pl.gm y)) s r = Pl.gm y (gapF b s r) := by
 unfold gapF
 rw [List.length_map, ← Pl.sx_gm]
 exact Pl.sx_ext fun j _ => by rw [Pl.map_getD, Pl.gm_assoc]
structure BmI (s G : List UInt8) (e r : Nat) (Xs : List UInt8) (t : Nat × List UInt8 × List UInt8) : Prop where
 le : e ≤ t.1
 er : t.1 ≤ r
 dl : ∀ j, t.1 < j → t.2.2.getD j 0 = 0
 c0 : t.2.2.getD 0 0 = 1
 z : ∀ q, t.1 + 1 ≤ q → q ≤ r → gapF t.2.2 s q = 0
 ro : ∀ X ∈ Xs, Pl.vl t.2.2 (Pl.gi X) = 0 ∧ Pl.vl t.2.1 (Pl.gi X) = 0
 last : (t.1 = e ∧ ∀ j, r < j → t.2.1.getD j 0 = 0) ∨ ((∀ j, r + e < t.1 + j → t.2.1.getD j 0 = 0) ∧ (∀ q, 1 ≤ q → r + e + 1 ≤ t.1 + q → q < r → gapF t.2.1 s q = 0) ∧ gapF t.2.1 s r = 1)
theorem BmI.step {s G : List UInt8} {e r : Nat} {Xs : List UInt8} {t : Nat × List UInt8 × List UInt8} (i : BmI s G e r Xs t) (her : e ≤ r) : BmI s G e (r + 1) Xs (srS s e (r + 1) t) := by
 obtain ⟨l, la, lo⟩ := t
 obtain ⟨le, er, dl, c0, z, ro, last⟩ := i
 dsimp only at le er dl c0 z ro last
 unfold srS
 dsimp only
 have shl : ((l = e ∧ ∀ j, r < j → la.getD j 0 = 0) ∨ ((∀ j, r + e < l + j → la.getD j 0 = 0) ∧ (∀ q, 1 ≤ q → r + e + 1 ≤ l + q → q < r → gapF la s q = 0) ∧ gapF la s r = 1)) →
   ((l = e ∧ ∀ j, r + 1 < j → ((0 : UInt8) :: la).getD j 0 = 0) ∨ ((∀ j, r + 1 + e < l + j → ((0 : UInt8) :: la).getD j 0 = 0) ∧ (∀ q, 1 ≤ q → r + 1 + e + 1 ≤ l + q → q < r + 1 → gapF (0 :: la) s q = 0) ∧ gapF (0 :: la) s (r + 1) = 1)) := by
  rintro (⟨h1, h2⟩ | ⟨h1, h2, h3⟩)
  ·refine .inl ⟨h1, fun j hj => ?_⟩
   obtain ⟨j', rfl⟩ : ∃ j', j = j' + 1 := ⟨j - 1, by omega⟩
   exact h2 j' (by omega)
  ·refine .inr ⟨fun j hj => ?_, fun q hq h4 h5 => ?_, ?_⟩
   ·obtain ⟨j', rfl⟩ : ∃ j', j = j' + 1 := ⟨j - 1, by omega⟩
    exact h1 j' (by omega)
   ·obtain ⟨q', rfl⟩ : ∃ q', q = q' + 1 := ⟨q - 1, by omega⟩
    rw [gapF_shift]
    exact h2 q' (by omega) (by omega) (by omega)
   ·rw [gapF_shift]; exact h3
 have ros : ∀ X ∈ Xs, Pl.vl ((0 : UInt8) :: la) (Pl.gi X) = 0 := fun X hX => by rw [Pl.vl_cons, (ro X hX).2, Pl.gm_zero]; rfl
 by_cases hd : gapF lo s (r + 1) = 0
 ·rw [if_pos hd]
  refine ⟨le, by show l ≤ r + 1; omega, dl, c0, fun q h1 h2 => ?_, fun X hX => ⟨(ro X hX).1, ros X hX⟩, shl last⟩
  by_cases hq : q = r + 1
  ·rw [hq]; exact hd
  ·exact z q h1 (by omega)
 ·rw [if_neg hd]
  have hnx0 : (Pl.plusF lo la (gapF lo s (r + 1))).getD 0 0 = 1 := by rw [Pl.plusF_get0]; exact c0
  have rop : ∀ X ∈ Xs, Pl.vl (Pl.plusF lo la (gapF lo s (r + 1))) (Pl.gi X) = 0 := fun X hX => by
   rw [Pl.plusF_vl, (ro X hX).1, (ro X hX).2, Pl.gm_zero]; rfl
  obtain ⟨d, hdd⟩ : ∃ d, gapF lo s (r + 1) = d := ⟨_, rfl⟩
  rw [hdd] at hd hnx0 rop ⊢
  by_cases hc : 2 * l + 1 ≤ r + 1 + e
  ·rw [if_pos hc]
   refine ⟨by show e ≤ r + 1 + e - l; omega, by show r + 1 + e - l ≤ r + 1; omega, fun j hj => ?_, hnx0, fun q h1 h2 => ?_, fun X hX => ⟨rop X hX, ?_⟩, .inr ⟨fun j hj => ?_, fun q hq h4 h5 => ?_, ?_⟩⟩
   ·change r + 1 + e - l < j at hj
    obtain ⟨j', rfl⟩ : ∃ j', j = j' + 1 := ⟨j - 1, by omega⟩
    rw [Pl.plusF_get, dl _ (by omega)]
    have : la.getD j' 0 = 0 := by
     rcases last with ⟨h1, h2⟩ | ⟨h1, _, _⟩
     ·exact h2 j' (by omega)
     ·exact h1 j' (by omega)
    rw [this, Pl.gm_zero]; rfl
   ·change r + 1 + e - l + 1 ≤ q at h1
    obtain ⟨q', rfl⟩ : ∃ q', q = q' + 1 := ⟨q - 1, by omega⟩
    rw [gapF_plus]
    rcases last with ⟨h3, h4⟩ | ⟨h3, h4, h5⟩
    ·omega
    ·by_cases hq : q' = r
     ·subst hq; rw [hdd, h5, Pl.gm_one]; exact UInt8.xor_self
     ·rw [z _ (by omega) (by omega), h4 q' (by omega) (by omega) (by omega), Pl.gm_zero]; rfl
   ·show Pl.vl (lo.map _) _ = 0
    rw [Pl.vl_scale, (ro X hX).1, Pl.gm_zero]
   ·change r + 1 + e < r + 1 + e - l + j at hj
    show (lo.map (Pl.gm (Pl.gi d))).getD j 0 = 0
    rw [Pl.map_getD, dl j (by omega), Pl.gm_zero]
   ·change r + 1 + e + 1 ≤ r + 1 + e - l + q at h4
    show gapF (lo.map (Pl.gm (Pl.gi d))) s q = 0
    rw [gapF_scale, z q (by omega) (by omega), Pl.gm_zero]
   ·show gapF (lo.map (Pl.gm (Pl.gi d))) s (r + 1) = 1
    rw [gapF_scale, hdd, Pl.gm_comm]; exact Pl.gm_gi hd
  ·rw [if_neg hc]
   have hl : ((∀ j, r + e < l + j → la.getD j 0 = 0) ∧ (∀ q, 1 ≤ q → r + e + 1 ≤ l + q → q < r → gapF la s q = 0) ∧ gapF la s r = 1) := by
    rcases last with ⟨h3, h4⟩ | h
    ·omega
    ·exact h
   refine ⟨le, by show l ≤ r + 1; omega, fun j hj => ?_, hnx0, fun q h1 h2 => ?_, fun X hX => ⟨rop X hX, ros X hX⟩, shl last⟩
   ·change l < j at hj
    obtain ⟨j', rfl⟩ : ∃ j', j = j' + 1 := ⟨j - 1, by omega⟩
    rw [Pl.plusF_get, dl _ (by omega), hl.1 j' (by omega), Pl.gm_zero]; rfl
   ·change l + 1 ≤ q at h1
    obtain ⟨q', rfl⟩ : ∃ q', q = q' + 1 := ⟨q - 1, by omega⟩
    rw [gapF_plus]
    by_cases hq : q' = r
    ·subst hq; rw [hdd, hl.2.2, Pl.gm_one]; exact UInt8.xor_self
    ·rw [z _ (by omega) (by omega), hl.2.1 q' (by omega) (by omega) (by omega), Pl.gm_zero]; rfl
def difF (n : Nat) (E : List Nat) (w c : List UInt8) : List Nat := (List.range n).filter fun i => decide (i ∉ E ∧ w[i]! ≠ c[i]!)
theorem md_fold_len (om de : List UInt8) (n : Nat) : ∀ (l : List Nat) (w : List UInt8), (l.foldl (mdStep om de n) w).length = w.length
 | [], _ => rfl
 | i :: l, w => by rw [List.foldl_cons, md_fold_len om de n l]; unfold mdStep; simp
theorem mendF_of {n k : Nat} {E : List Nat} {w c : List UInt8} (hw : w.length = n) (h : mendF n k E w = some c) : E.length ≤ n - k ∧ c.length = n ∧ rightF (n - k) c ∧ E.length + 2 * (difF n E w c).length ≤ n - k := by
 unfold mendF at h
 split at h
 ·cases h
 rename_i h1
 split at h
 ·rename_i hRw
  have e := Option.some.inj h
  subst e
  refine ⟨by omega, hw, hRw, ?_⟩
  have : difF n E w w = [] := by
   unfold difF
   exact List.filter_eq_nil_iff.2 fun i _ => by simp
  rw [this]; simp; omega
 ·split at h
  ·cases h
  rename_i w' hm
  split at h
  ·rename_i hR
   have e := Option.some.inj h
   subst e
   unfold mdF at hm
   split at hm
   ·cases hm
   rename_i hcond
   split at hm
   ·have e2 := Option.some.inj hm
    have hln : ∀ i ∈ plcF n (srI (synL (n - k) w) (Pl.locs (plX n E)) E.length (n - k - E.length)).2.2 n, i < n := plcF_lt n _ n
    have hlP : ∃ P, plcF n (srI (synL (n - k) w) (Pl.locs (plX n E)) E.length (n - k - E.length)).2.2 n = (List.range n).filter P := ⟨_, rfl⟩
    have hnd : (plcF n (srI (synL (n - k) w) (Pl.locs (plX n E)) E.length (n - k - E.length)).2.2 n).Nodup := ((range_asc n).imp fun {a b} h q => by omega).filter _
    generalize plcF n (srI (synL (n - k) w) (Pl.locs (plX n E)) E.length (n - k - E.length)).2.2 n = l at *
    have hlen : w'.length = n := by rw [← e2, md_fold_len, hw]
    refine ⟨by omega, hlen, hR, ?_⟩
    have hsub : (difF n E w w').length ≤ ulF E l := by
     obtain ⟨P, hP⟩ := hlP
     have hst := fun i (hi : i < n) => step_get (om := Pl.omF (n - k) (synL (n - k) w) (srI (synL (n - k) w) (Pl.locs (plX n E)) E.length (n - k - E.length)).2.2) (de := Pl.dvF (srI (synL (n - k) w) (Pl.locs (plX n E)) E.length (n - k - E.length)).2.2) (n := n) l w hnd (fun i hi => by rw [hw]; exact hln i hi) i (by omega)
     have hmem : ∀ i, i ∈ List.range n → decide (i ∉ E ∧ w[i]! ≠ w'[i]!) = true → (decide (i ∉ E) && P i) = true := fun i hi hd => by
      obtain ⟨h5, h6⟩ := of_decide_eq_true hd
      have hin := List.mem_range.1 hi
      have hil : i ∈ l := Classical.byContradiction fun q => h6 (by
       have := hst i hin
       rw [e2, if_neg q] at this
       exact this.symm)
      rw [hP] at hil
      rw [(List.mem_filter.1 hil).2, decide_eq_true h5]; rfl
     unfold ulF difF
     rw [hP, List.filter_filter, ← List.countP_eq_length_filter, ← List.countP_eq_length_filter]
     exact List.countP_mono_left hmem
    omega
   ·cases hm
  ·cases h

theorem secF_blank {n i : Nat} (h : i < n) : secF (dev0 n) i = List.replicate 64 255 := by
 show ((List.replicate (64 * n) (255 : UInt8)).drop (64 * i)).take 64 = _
 rw [List.drop_replicate, List.take_replicate]
 congr 1; omega
theorem erF_blank (n : Nat) : (erF (List.replicate n (List.replicate 64 255))).length = n := by
 unfold erF
 rw [List.filter_eq_self.2 fun i hi => ?_, List.length_range, List.length_replicate]
 have hin : i < n := by simpa using hi
 rw [getElem!_pos _ i (by simpa using hin), List.getElem_replicate, List.take_replicate]
 exact decide_eq_true blank_bad
def c54 : AC := .seq (.ops [oP 6 (.alloc [.slice none 0 0,.slice none 0 0,.int .i64 0]),oP 7 (.mv (kI 0))]) (.seq (.ops [mV 11 0,mV 12 1,mV 13 2,oP 14 (.call 30 [tP 11,tP 12,tP 13]),mV 10 14,oP 15 (.extr (tP 10) 0),oP 16 (.extr (tP 10) 1),oP 8 (.alloc [.slice none 0 0,.slice none 0 0]),⟨none,none,.store 2 (tP 8) (tP 15)⟩,mV 9 16]) (.seq (.block 0 (.seq (.ops [mV 18 9,oP 19 (.bin .eql (tP 18) (kI 8)),mV 17 19]) (.cond (tP 17) (.seq (.ops [oP 20 (.build [.slice none 0 0,.slice none 0 0,.int .i64 0] [(2,1,.const (.int .i64 2))]),⟨none,none,.store 3 (tP 6) (tP 20)⟩,oP 7 (.mv (kI 0))]) .ret) (.seq (.ops [mV 22 9,oP 23 (.bin .neq (tP 22) (kI 0)),mV 21 23]) (.cond (tP 21) (.seq (.ops [oP 24 (.build [.slice none 0 0,.slice none 0 0,.int .i64 0] []),mV 25 9,⟨none,none,.store 3 (tP 6) (tP 24)⟩,mV 7 25]) .ret) (.seq (.ops [oP 27 (.fAddr 1 (tP 8)),oP 28 (.load none (tP 27)),oP 29 (.lenS false (tP 28)),oP 30 (.bin .gtr (tP 29) (kI 0)),mV 26 30]) (.cond (tP 26) (.seq (.ops [oP 31 (.load (some 2) (tP 8)),oP 32 (.build [.slice none 0 0,.slice none 0 0,.int .i64 0] [(0,2,.tmp 31),(2,1,.const (.int .i64 1))]),⟨none,none,.store 3 (tP 6) (tP 32)⟩,oP 7 (.mv (kI 0))]) .ret) .skip))))))) (.seq (.ops [oP 33 (.load (some 2) (tP 8)),oP 34 (.build [.slice none 0 0,.slice none 0 0,.int .i64 0] [(0,2,.tmp 33),(2,1,.const (.int .i64 0))]),⟨none,none,.store 3 (tP 6) (tP 34)⟩,oP 7 (.mv (kI 0))]) .ret)))
theorem k54 : compR Tryz.prog Tryz.f54 = some (c54, [.c 6 (some 3), .t 7]) := by kernel_rfl
theorem n54 : Tryz.f54.ntmps = 35 := by kernel_rfl
def c18 : AC := .seq (.ops [oP 6 (.mv (kI 0)),oP 7 (.mv (kI 0))]) (.seq (.ops [mV 11 0,mV 12 1,mV 13 2,oP 14 (.call 54 [tP 11,tP 12,tP 13]),mV 10 14,oP 15 (.extr (tP 10) 0),oP 16 (.extr (tP 10) 1),oP 8 (.alloc [.slice none 0 0,.slice none 0 0,.int .i64 0]),⟨none,none,.store 3 (tP 8) (tP 15)⟩,mV 9 16]) (.seq (.ops [oP 17 (.fAddr 2 (tP 8)),oP 18 (.load none (tP 17)),mV 19 9,mV 6 18,mV 7 19]) .ret))
theorem k18 : compF Tryz.prog Tryz.f18 = some (c18, [6, 7]) := by kernel_rfl
theorem n18 : Tryz.f18.ntmps = 20 := by kernel_rfl
noncomputable def rdF (d p : Nat) (l : List (List UInt8)) : Option (List (List UInt8)) := foldR (d + p) (l.map (List.take 60)) (fun q => mendF (d + p) d (erF l) (colF (l.map (List.take 60)) q)) 60
theorem cread_gen (c k s f : Nat) (gw : Value) (d p n : Nat) (hr : right d p n = true) (l : List (List UInt8)) (hl64 : ∀ x ∈ l, x.length = 64) (hll : l.length = d + p) (v : Value) (h : Heap) (hk : CodK h c k s f gw d p n) (hl : Sl sv h v l) :
  ACalls Tryz.prog 73 [.pointer (some ⟨c, 0, none⟩), v] h (ReadR h l (rdF d p l)) := by
 obtain ⟨⟨hd1, hd8⟩, ⟨hp2, hp6⟩, hn1, hn8⟩ := right_prop.1 hr
 refine cread_ok c k s f gw d p n hr l hl64 hll (fun q => mendF (d + p) d (erF l) (colF (l.map (List.take 60)) q)) v h hk hl fun q hq H v1 v2 ck s1 s2 => ?_
 have hc : (colF (l.map (List.take 60)) q).length = d + p := by unfold colF; rw [List.length_map, List.length_map, hll]
 refine (mendf_ok k f (d + p) d gw (by omega) (by omega) (by omega) (by omega) _ hc v1 v2 (erF l) (fun x hx => by have := erF_lt l x hx; omega) (erF_asc l) (by have := erF_len l; omega) H ck s1 s2).mono ?_
 intro r h' hr2
 cases e : mendF (d + p) d (erF l) (colF (l.map (List.take 60)) q) with
 | none => rw [e] at hr2; exact hr2
 | some w =>
  rw [e] at hr2
  obtain ⟨vw, vu, rfl, nb⟩ := hr2
  exact ⟨vw, vu, rfl, nb, (mendF_of hc e).2.1⟩
theorem aread_gen (A : ArB) (V : DevS) (a k : Nat) (ha : a ≤ 2) (hk : k < A.S) (h : Heap) (K : ArK h A V) :
  ACalls Tryz.prog 30 [.pointer (some ⟨A.a, 0, none⟩), .int .i64 (a : Int), .int .i64 (k : Int)] h fun r h' => ∃ q, ArK h' A (V.wop q) ∧ ReadA h (strF A V a k) (rdF A.D A.P (strF A V a k)) r h' ∧ ArX A h h' :=
 aread_ok A V a k ha hk _ h K fun H v ck sv' => cread_gen A.c A.k A.s A.f A.gw A.D A.P A.S K.rt _ (strF_64 A V a k ha hk h K) (strF_len _ _ _ _) v H ck sv'
theorem rdF_er {d p : Nat} (hn : d + p ≤ 255) {l : List (List UInt8)} (hl64 : ∀ x ∈ l, x.length = 64) (hll : l.length = d + p) {X : List (List UInt8)} (hX : X.length = d + p) (hX6 : ∀ x ∈ X, x.length = 60) (hE : (erF l).length ≤ p)
  (hR : ∀ q, q < 60 → rightF p (colF X q)) (hs : ∀ i, i < d + p → i ∉ erF l → (l[i]!).take 60 = X[i]!) : rdF d p l = some X := by
 have hB : (l.map (List.take 60)).length = d + p := by rw [List.length_map, hll]
 have hB6 : ∀ x ∈ l.map (List.take 60), x.length = 60 := fun x hx => by
  obtain ⟨y, hy, rfl⟩ := List.mem_map.1 hx
  rw [List.length_take, hl64 y hy]; rfl
 refine foldR_eq (by rw [hB]) (by rw [hB, hX]) hB6 hX6 fun q hq => ?_
 refine mendF_er (n := d + p) (k := d) hn (E := erF l) (by unfold colF; rw [List.length_map, hB]) (by unfold colF; rw [List.length_map, hX]) (by rw [show d + p - d = p by omega]; exact hR q hq) (fun x hx => by have := erF_lt l x hx; omega) (erF_asc l) (by omega) fun i hi hne => ?_
 refine Classical.byContradiction fun hni => hne ?_
 rw [colX_get _ _ _ (by rw [hB]; exact hi), colX_get _ _ _ (by rw [hX]; exact hi), getElem!_pos _ i (by rw [hB]; exact hi), List.getElem_map, ← getElem!_pos l i (by rw [hll]; exact hi), hs i hi hni]
theorem rdF_many {d p : Nat} {l : List (List UInt8)} (hE : p < (erF l).length) : rdF d p l = none := by
 refine foldR_bad ?_
 unfold mendF
 rw [if_pos (by omega)]
theorem rdF_full {A : ArB} {V : DevS} {a k : Nat} {x : Hd} {img : List UInt8} (hr : right A.D A.P A.S = true) (B : Blk A x img) (hk : k < A.S) (hs : strF A V a k = (blkF A x img k).map crE) : rdF A.D A.P (strF A V a k) = some (blkF A x img k) := by
 obtain ⟨⟨hd1, hd8⟩, ⟨hp2, hp6⟩, hn1, hn8⟩ := right_prop.1 hr
 obtain ⟨h1, h2⟩ := B.len k hk
 rw [hs]
 refine rdF_er (by omega) (fun y hy => ?_) (by rw [List.length_map, h1]) h1 h2 (by rw [seal_er h2]; exact Nat.zero_le _) (B.rt k hk) fun i hi _ => ?_
 ·obtain ⟨z, hz, rfl⟩ := List.mem_map.1 hy
  rw [crE_len, h2 z hz]
 ·have hi' : i < (blkF A x img k).length := by omega
  rw [getElem!_pos _ i (by simpa using hi'), List.getElem_map, crE_take (h2 _ (List.getElem_mem _)), getElem!_pos _ i hi']
theorem wrF_full {A : ArB} {V : DevS} {a k : Nat} {x : Hd} {img : List UInt8} (B : Blk A x img) (hk : k < A.S) (hs : strF A V a k = (blkF A x img k).map crE) : wrF (blkF A x img k) (strF A V a k) (A.D + A.P) = [] := by
 rw [hs]; exact seal_wr _ (by rw [(B.len k hk).1]; omega)
theorem strF_blank {A : ArB} {V : DevS} {a k : Nat} (hb : ∀ i, i < A.D + A.P → secF V (secN A.D A.P A.S a k i) = List.replicate 64 255) : strF A V a k = List.replicate (A.D + A.P) (List.replicate 64 255) := by
 refine List.eq_replicate_iff.2 ⟨strF_len _ _ _ _, fun x hx => ?_⟩
 obtain ⟨i, hi, rfl⟩ := List.mem_map.1 hx
 exact hb i (List.mem_range.1 hi)
theorem rdF_blank {d p : Nat} (hd : 1 ≤ d) : rdF d p (List.replicate (d + p) (List.replicate 64 255)) = none := rdF_many (by rw [erF_blank]; omega)
def SeeR (h : Heap) (l : List (List UInt8)) (o : Option (List (List UInt8))) (r : Value) (h' : Heap) : Prop := match o with
 | none => r = .tuple #[.agg #[.slice none 0 0, .slice none 0 0, .int .i64 2], .int .i64 0]
 | some X => ∃ va vw, r = .tuple #[.agg #[va, vw, .int .i64 (if wrF X l l.length = [] then 0 else 1)], .int .i64 0] ∧ FdJ h X l va vw h'
theorem _root_.Go.Proofs.YtdnmkenamgfjoaaGreat.arbe.FdJ.keep {h0 h h' : Heap} {X l : List (List UInt8)} {va vw : Value} {H : Heap} (f : FdJ h X l va vw H) (hn : h0.n ≤ h.n) (k : ∀ u ob, h.n ≤ u → H.m u = some ob → h'.m u = some ob) : FdJ h0 X l va vw h' := by
 obtain ⟨nm, nn, l1, l2, n1, n2, n3⟩ := f
 exact ⟨nm, nn, l1.up fun x e ob q => k x ob (n1 x e) q, l2.up fun x e ob q => k x ob (n2 x e) q, fun x e => Nat.le_trans hn (n1 x e), fun x e => Nat.le_trans hn (n2 x e), n3⟩
theorem see_ok (A : ArB) (V : DevS) (a k : Nat) (ha : a ≤ 2) (hk : k < A.S) (h : Heap) (K : ArK h A V) :
  ACalls Tryz.prog 54 [.pointer (some ⟨A.a, 0, none⟩), .int .i64 (a : Int), .int .i64 (k : Int)] h fun r h' => SeeR h (strF A V a k) (rdF A.D A.P (strF A V a k)) r h' ∧ ∃ q, ArK h' A (V.wop q) ∧ ArX A h h' := by
 refine acalls_ofR mix Tryz.func54 k54 n54 (by simp) fun hcl hb => ?_
 have hba := cellsOf_lt hcl K.ca
 obtain ⟨l1, l2, l3, l4, l5⟩ := K.lo
 have c1 : (h.push (.cells [.slice none 0 0, .slice none 0 0, .int .i64 0] .ex 1)).Closed := closed_push hcl (fun x hx => by
  simp at hx
  rcases hx with rfl | rfl
  ·exact .snil
  ·exact .int)
 have g1 : Gr h (h.push (.cells [.slice none 0 0, .slice none 0 0, .int .i64 0] .ex 1)) := ⟨Nat.le_succ _, c1, keep_push hcl _⟩
 have f1 := cellsOf_new h [.slice none 0 0, .slice none 0 0, .int .i64 0] .ex 1
 have n1 : (h.push (.cells [.slice none 0 0, .slice none 0 0, .int .i64 0] .ex 1)).n = h.n + 1 := rfl
 simp [c54]
 generalize h.push (.cells [.slice none 0 0, .slice none 0 0, .int .i64 0] .ex 1) = H1 at *
 have K1 := K.keep g1
 refine (aread_gen A V a k ha hk H1 K1).mono' ?_
 rintro r H2 c2 _ ⟨q, K2, hr, g2⟩
 have f2 : H2.cellsOf h.n = some ([.slice none 0 0, .slice none 0 0, .int .i64 0], .ex, 1) := by
  have := g2.m h.n _ (m_of_cells f1) (by omega) (by omega) (by omega) (by omega)
  unfold Heap.cellsOf; rw [this]
 have n2 := g2.n
 have fin : ∀ (H' : Heap), H2.n ≤ H'.n → H'.Closed → (∀ u ob, H2.m u = some ob → u ≠ h.n → H'.m u = some ob) → ∃ q, ArK H' A (V.wop q) ∧ ArX A h H' := fun H' hn hc hm => by
  have gx : ArX A h H' := ⟨by have := g1.n; omega, hc, fun u ob e h1 h2 h3 h4 => by
   have := (hcl u ob e).1
   exact hm u ob (g2.m u ob (g1.m u ob e) h1 h2 h3 h4) (by omega)⟩
  exact ⟨q, K.keepX gx (K2.dv.keepM fun u ob e hu => hm u ob e (by omega)) (K.du.wop q) rfl, gx⟩
 generalize hst : strF A V a k = l at *
 have fil1 : afill [.slice none 0 0, .slice none 0 0, .int .i64 0] [(2, 1, .int .i64 2)] = some [.slice none 0 0, .slice none 0 0, .int .i64 2] := rfl
 have fil2 : ∀ (u v : Value) (n : Int), afill [.slice none 0 0, .slice none 0 0, .int .i64 0] [(0, 2, .agg #[u, v]), (2, 1, .int .i64 n)] = some [u, v, .int .i64 n] := fun _ _ _ => rfl
 have hm2 : ∀ u v : Value, mcells (.agg #[u, v]) = some [u, v] := fun _ _ => rfl
 have hm3 : ∀ u v w : Value, mcells (.agg #[u, v, w]) = some [u, v, w] := fun _ _ _ => rfl
 have hp2 : ∀ u v : Value, aput [.slice none 0 0, .slice none 0 0] 0 [u, v] = [u, v] := fun _ _ => rfl
 have hp3 : ∀ u v w : Value, aput [.slice none 0 0, .slice none 0 0, .int .i64 0] 0 [u, v, w] = [u, v, w] := fun _ _ _ => rfl
 have hc2 : ∀ u v : Value, acut [u, v] 0 2 = some [u, v] := fun _ _ => rfl
 have hc3 : ∀ u v w : Value, acut [u, v, w] 0 3 = some [u, v, w] := fun _ _ _ => rfl
 have hsl : l.length = A.D + A.P := by rw [← hst]; exact strF_len _ _ _ _
 cases ho : rdF A.D A.P l with
 | none =>
  rw [ho] at hr
  obtain rfl := hr
  have f20 := cellsOf_new H2 [.slice none 0 0, .slice none 0 0] .ex 1
  have c3 : (H2.push (.cells [.slice none 0 0, .slice none 0 0] .ex 1)).Closed := closed_push c2 (fun x hx => by simp at hx; subst hx; exact .snil)
  have f3 := cellsOf_keep (keep_push c2 (.cells [.slice none 0 0, .slice none 0 0] .ex 1)) f2
  have f4 := cells_setJ' (H2.push (.cells [.slice none 0 0, .slice none 0 0] .ex 1)) h.n [.slice none 0 0, .slice none 0 0, .int .i64 2] .ex 1
  simp [hm2, hp2, f20, set_push, fil1, hm3, hp3, f3, f4, hc3]
  obtain ⟨q', o2, o3⟩ := fin ((H2.push (.cells [.slice none 0 0, .slice none 0 0] .ex 1)).set h.n (.cells [.slice none 0 0, .slice none 0 0, .int .i64 2] .ex 1)) (Nat.le_succ _) (closed_set (o := .cells [.slice none 0 0, .slice none 0 0, .int .i64 2] .ex 1) c3 (by show h.n < H2.n + 1; omega) (fun x hx => by
   simp at hx
   rcases hx with rfl | rfl
   ·exact .snil
   ·exact .int)) fun u ob e hne => by
    rw [set_m, if_neg hne]
    exact keep_push c2 _ u ob e
  exact ⟨rfl, ⟨q', o2⟩, o3⟩
 | some X =>
  rw [ho] at hr
  obtain ⟨va, vw, rfl, fd⟩ := hr
  have fd0 := fd
  obtain ⟨nm, nn, la, lw, na, nw, nx⟩ := fd
  obtain ⟨aw, rfl⟩ := LAt.form lw
  have bva := lat_bel c2 la
  have bvw := lat_bel c2 lw
  obtain ⟨E, hE⟩ : ∃ E, wrF X l l.length = E := ⟨_, rfl⟩
  rw [hE] at bvw lw fd0
  obtain ⟨el, hel⟩ : ∃ el, E.length = el := ⟨_, rfl⟩
  rw [hel] at bvw lw fd0
  have f20 := cellsOf_new H2 [.slice none 0 0, .slice none 0 0] .ex 1
  rw [hE, hel]
  have c3 : (H2.push (.cells [va, .slice aw el el] .ex 1)).Closed := closed_push c2 (fun x hx => by
   simp at hx
   rcases hx with rfl | rfl
   ·exact bva.mono (Nat.le_succ _)
   ·exact bvw.mono (Nat.le_succ _))
  have f3 := cellsOf_keep (keep_push c2 (.cells [va, .slice aw el el] .ex 1)) f2
  have f30 := cellsOf_new H2 [va, .slice aw el el] .ex 1
  have f4 := fun n : Int => cells_setJ' (H2.push (.cells [va, .slice aw el el] .ex 1)) h.n [va, .slice aw el el, .int .i64 n] .ex 1
  have out : ∀ n : Int, n = (if E = [] then 0 else 1) → SeeR h l (some X) (.tuple #[.agg #[va, .slice aw el el, .int .i64 n], .int .i64 0]) ((H2.push (.cells [va, .slice aw el el] .ex 1)).set h.n (.cells [va, .slice aw el el, .int .i64 n] .ex 1)) ∧ ∃ q, ArK ((H2.push (.cells [va, .slice aw el el] .ex 1)).set h.n (.cells [va, .slice aw el el, .int .i64 n] .ex 1)) A (V.wop q) ∧ ArX A h ((H2.push (.cells [va, .slice aw el el] .ex 1)).set h.n (.cells [va, .slice aw el el, .int .i64 n] .ex 1)) := fun n hn => by
   have km : ∀ u ob, H2.m u = some ob → u ≠ h.n → ((H2.push (.cells [va, .slice aw el el] .ex 1)).set h.n (.cells [va, .slice aw el el, .int .i64 n] .ex 1)).m u = some ob := fun u ob e hne => by
    rw [set_m, if_neg hne]
    exact keep_push c2 _ u ob e
   refine ⟨⟨va, _, by rw [hn, hE], fd0.keep (h := H1) (by omega) fun u ob hu e => km u ob e (by omega)⟩, fin _ (Nat.le_succ _) (closed_set (o := .cells [va, .slice aw el el, .int .i64 n] .ex 1) c3 (by show h.n < H2.n + 1; omega) (fun x hx => by
    simp at hx
    rcases hx with rfl | rfl | rfl
    ·exact bva.mono (Nat.le_succ _)
    ·exact bvw.mono (Nat.le_succ _)
    ·exact .int)) km⟩
  by_cases hE0 : E = []
  ·obtain rfl : el = 0 := by rw [← hel, hE0]; rfl
   obtain ⟨o1, q', o2, o3⟩ := out 0 (by rw [if_pos hE0])
   simp [hm2, hp2, f20, set_push, fil2, hm3, hp3, f3, f30, f4, hc3, hc2, apart]
   exact ⟨o1, ⟨q', o2⟩, o3⟩
  ·have hl2 : 0 < el := by have := List.length_pos_iff.2 hE0; omega
   have hl1 : (0 : Int) < (el : Int) := by omega
   obtain ⟨o1, q', o2, o3⟩ := out 1 (by rw [if_neg hE0])
   simp [hm2, hp2, f20, set_push, fil2, hm3, hp3, f3, f30, f4, hc3, hc2, apart, hl1, hl2]
   exact ⟨o1, ⟨q', o2⟩, o3⟩

theorem see_err (av : Value) (a k e : Int) (h8 : e ≠ 8) (h0 : e ≠ 0) (h : Heap) (hR : ∀ H, Gr h H → ACalls Tryz.prog 30 [av, .int .i64 a, .int .i64 k] H fun r h' => r = .tuple #[.agg #[.slice none 0 0, .slice none 0 0], .int .i64 e] ∧ Gr H h') :
  ACalls Tryz.prog 54 [av, .int .i64 a, .int .i64 k] h fun r h' => r = .tuple #[.agg #[.slice none 0 0, .slice none 0 0, .int .i64 0], .int .i64 e] ∧ Gr h h' := by
 refine acalls_ofR mix Tryz.func54 k54 n54 (by simp) fun hcl hb => ?_
 have z3 : ∀ x ∈ ([.slice none 0 0, .slice none 0 0, .int .i64 0] : List Value), VBelow (h.n + 1) x := fun x hx => by
  simp at hx
  rcases hx with rfl | rfl
  ·exact .snil
  ·exact .int
 have c1 : (h.push (.cells [.slice none 0 0, .slice none 0 0, .int .i64 0] .ex 1)).Closed := closed_push hcl z3
 have g1 : Gr h (h.push (.cells [.slice none 0 0, .slice none 0 0, .int .i64 0] .ex 1)) := ⟨Nat.le_succ _, c1, keep_push hcl _⟩
 have f1 := cellsOf_new h [.slice none 0 0, .slice none 0 0, .int .i64 0] .ex 1
 have n1 : (h.push (.cells [.slice none 0 0, .slice none 0 0, .int .i64 0] .ex 1)).n = h.n + 1 := rfl
 simp [c54]
 generalize h.push (.cells [.slice none 0 0, .slice none 0 0, .int .i64 0] .ex 1) = H1 at *
 refine (hR H1 g1).mono' ?_
 rintro r H2 c2 _ ⟨rfl, g2⟩
 have f2 := cellsOf_keep g2.m f1
 have n2 := g2.n
 have hm2 : ∀ u v : Value, mcells (.agg #[u, v]) = some [u, v] := fun _ _ => rfl
 have hp2 : ∀ u v : Value, aput [.slice none 0 0, .slice none 0 0] 0 [u, v] = [u, v] := fun _ _ => rfl
 have hm3 : ∀ u v w : Value, mcells (.agg #[u, v, w]) = some [u, v, w] := fun _ _ _ => rfl
 have hp3 : ∀ u v w : Value, aput [.slice none 0 0, .slice none 0 0, .int .i64 0] 0 [u, v, w] = [u, v, w] := fun _ _ _ => rfl
 have hc3 : ∀ u v w : Value, acut [u, v, w] 0 3 = some [u, v, w] := fun _ _ _ => rfl
 have fil0 : afill [.slice none 0 0, .slice none 0 0, .int .i64 0] [] = some [.slice none 0 0, .slice none 0 0, .int .i64 0] := rfl
 have f20 := cellsOf_new H2 [.slice none 0 0, .slice none 0 0] .ex 1
 have c3 : (H2.push (.cells [.slice none 0 0, .slice none 0 0] .ex 1)).Closed := closed_push c2 (fun x hx => by simp at hx; subst hx; exact .snil)
 have f3 := cellsOf_keep (keep_push c2 (.cells [.slice none 0 0, .slice none 0 0] .ex 1)) f2
 have f4 := cells_setJ' (H2.push (.cells [.slice none 0 0, .slice none 0 0] .ex 1)) h.n [.slice none 0 0, .slice none 0 0, .int .i64 0] .ex 1
 simp [hm2, hp2, f20, set_push, h8, h0, fil0, hm3, hp3, f3, f4, hc3]
 refine ⟨rfl, by show h.n ≤ H2.n + 1; have := g1.n; omega, closed_set (o := .cells [.slice none 0 0, .slice none 0 0, .int .i64 0] .ex 1) c3 (by show h.n < H2.n + 1; omega) (fun x hx => (z3 x hx).mono (by show h.n + 1 ≤ H2.n + 1; omega)), fun u ob e2 => ?_⟩
 have := (hcl u ob e2).1
 rw [set_m, if_neg (by omega)]
 exact keep_push c2 _ u ob (g2.m u ob (g1.m u ob e2))
theorem see_out (A : ArB) (V : DevS) (a k : Int) (ht : thereF A.S a k = false) (h : Heap) (K : ArK h A V) :
  ACalls Tryz.prog 54 [.pointer (some ⟨A.a, 0, none⟩), .int .i64 a, .int .i64 k] h fun r h' => r = .tuple #[.agg #[.slice none 0 0, .slice none 0 0, .int .i64 0], .int .i64 2] ∧ Gr h h' :=
 see_err _ a k 2 (by decide) (by decide) h fun H g => aread_out A V a k ht H (K.keep g)
noncomputable def lookF (D P : Nat) (l : List (List UInt8)) : Int := match rdF D P l with
 | none => 2
 | some X => if wrF X l l.length = [] then 0 else 1
theorem look_ok (A : ArB) (V : DevS) (a k : Nat) (ha : a ≤ 2) (hk : k < A.S) (h : Heap) (K : ArK h A V) :
  ACalls Tryz.prog 18 [.pointer (some ⟨A.a, 0, none⟩), .int .i64 (a : Int), .int .i64 (k : Int)] h fun r h' => r = .tuple #[.int .i64 (lookF A.D A.P (strF A V a k)), .int .i64 0] ∧ ∃ q, ArK h' A (V.wop q) ∧ ArX A h h' := by
 refine acalls_of mix Tryz.func18 k18 n18 (by simp) fun hcl hb => ?_
 simp [c18]
 refine (see_ok A V a k ha hk h K).mono' ?_
 rintro r H2 c2 br ⟨hs, q, K2, g2⟩
 have hm3 : ∀ u v w : Value, mcells (.agg #[u, v, w]) = some [u, v, w] := fun _ _ _ => rfl
 have hp3 : ∀ u v w : Value, aput [.slice none 0 0, .slice none 0 0, .int .i64 0] 0 [u, v, w] = [u, v, w] := fun _ _ _ => rfl
 have f20 := cellsOf_new H2 [.slice none 0 0, .slice none 0 0, .int .i64 0] .ex 1
 have key : ∀ (u v : Value) (n : Int), VBelow H2.n u → VBelow H2.n v → Gr H2 (H2.push (.cells [u, v, .int .i64 n] .ex 1)) := fun u v n bu bv => ⟨Nat.le_succ _, closed_push c2 (fun x hx => by
  simp at hx
  rcases hx with rfl | rfl | rfl
  ·exact bu.mono (Nat.le_succ _)
  ·exact bv.mono (Nat.le_succ _)
  ·exact .int), keep_push c2 _⟩
 unfold lookF
 unfold SeeR at hs
 cases ho : rdF A.D A.P (strF A V a k) with
 | none =>
  rw [ho] at hs
  obtain rfl := hs
  have f3 := cellsOf_new H2 [.slice none 0 0, .slice none 0 0, .int .i64 2] .ex 1
  have g3 := key (.slice none 0 0) (.slice none 0 0) 2 .snil .snil
  simp [hm3, hp3, f20, set_push, f3, apart]
  exact ⟨⟨q, K2.keep g3⟩, Xd.trans g2 (Xd.of g3)⟩
 | some X =>
  rw [ho] at hs
  obtain ⟨va, vw, rfl, fd⟩ := hs
  obtain ⟨nm, nn, la, lw, _⟩ := fd
  obtain ⟨n, hn⟩ : ∃ n : Int, (if wrF X (strF A V a k) (strF A V a k).length = [] then 0 else 1) = n := ⟨_, rfl⟩
  dsimp only
  rw [hn]
  have f3 := cellsOf_new H2 [va, vw, .int .i64 n] .ex 1
  have g3 := key va vw n (lat_bel c2 la) (lat_bel c2 lw)
  simp [hm3, hp3, f20, set_push, f3, apart]
  exact ⟨⟨q, K2.keep g3⟩, Xd.trans g2 (Xd.of g3)⟩
theorem look_err (av : Value) (a k e : Int) (h : Heap) (hR : ∀ H, Gr h H → ACalls Tryz.prog 54 [av, .int .i64 a, .int .i64 k] H fun r h' => r = .tuple #[.agg #[.slice none 0 0, .slice none 0 0, .int .i64 0], .int .i64 e] ∧ Gr H h') :
  ACalls Tryz.prog 18 [av, .int .i64 a, .int .i64 k] h fun r h' => r = .tuple #[.int .i64 0, .int .i64 e] ∧ Gr h h' := by
 refine acalls_of mix Tryz.func18 k18 n18 (by simp) fun hcl hb => ?_
 simp [c18]
 refine (hR h (Gr.refl hcl)).mono' ?_
 rintro r H2 c2 br ⟨rfl, g2⟩
 have hm3 : ∀ u v w : Value, mcells (.agg #[u, v, w]) = some [u, v, w] := fun _ _ _ => rfl
 have hp3 : ∀ u v w : Value, aput [.slice none 0 0, .slice none 0 0, .int .i64 0] 0 [u, v, w] = [u, v, w] := fun _ _ _ => rfl
 have f20 := cellsOf_new H2 [.slice none 0 0, .slice none 0 0, .int .i64 0] .ex 1
 simp [hm3, hp3, f20, set_push, apart]
 exact g2.trans ⟨Nat.le_succ _, closed_push c2 (fun x hx => by
  simp at hx
  rcases hx with rfl | rfl
  ·exact .snil
  ·exact .int), keep_push c2 _⟩
theorem look_out (A : ArB) (V : DevS) (a k : Int) (ht : thereF A.S a k = false) (h : Heap) (K : ArK h A V) :
  ACalls Tryz.prog 18 [.pointer (some ⟨A.a, 0, none⟩), .int .i64 a, .int .i64 k] h fun r h' => r = .tuple #[.int .i64 0, .int .i64 2] ∧ Gr h h' :=
 look_err _ a k 2 h fun H g => see_out A V a k ht H (K.keep g)
theorem look_nil (a k : Int) (h : Heap) :
  ACalls Tryz.prog 18 [.pointer none, .int .i64 a, .int .i64 k] h fun r h' => r = .tuple #[.int .i64 0, .int .i64 1] ∧ Gr h h' :=
 look_err _ a k 1 h fun H _ => see_err _ a k 1 (by decide) (by decide) H fun H2 _ => aread_nil a k H2

def c55_0 : AC := .seq (.ops [oP 18 (.bin .lss (tP 17) (tP 16))]) (.seq (.cond (tP 18) .skip (.exit 0)) (.seq (.block 1 (.seq (.ops [oP 19 (.iAddrS 1 (tP 15) (tP 17)),oP 20 (.load none (tP 19)),mV 11 20]) (.seq (.seq (.ops [mV 21 11,mV 22 1,oP 23 (.bin .eql (tP 21) (tP 22))]) (.cond (tP 23) (.exit 1) .skip)) (.seq (.ops [mV 25 0,mV 26 11,mV 27 2,oP 28 (.call 54 [tP 25,tP 26,tP 27]),mV 24 28,oP 29 (.extr (tP 24) 0),oP 30 (.extr (tP 24) 1),oP 12 (.alloc [.slice none 0 0,.slice none 0 0,.int .i64 0]),⟨none,none,.store 3 (tP 12) (tP 29)⟩,mV 13 30]) (.seq (.block 2 (.seq (.ops [mV 32 13,oP 33 (.bin .eql (tP 32) (kI 2)),mV 31 33]) (.cond (tP 31) (.exit 1) (.seq (.ops [mV 35 13,oP 36 (.bin .neq (tP 35) (kI 0)),mV 34 36]) (.cond (tP 34) (.seq (.ops [mV 37 13,oP 8 (.mv (kI 0)),mV 9 37]) .ret) (.seq (.ops [oP 39 (.fAddr 2 (tP 12)),oP 40 (.load none (tP 39)),oP 41 (.bin .eql (tP 40) (kI 2)),mV 38 41]) (.cond (tP 38) (.exit 1) .skip))))))) (.seq (.seq (.draw [([mV 42 0,mV 43 1,mV 44 2,oP 45 (.fAddr 0 (tP 12)),oP 46 (.fAddr 0 (tP 45)),oP 47 (.load none (tP 46)),mV 48 0,oP 49 (.nilck (tP 48)),oP 50 (.fAddr 0 (tP 49)),oP 51 (.load none (tP 50))],[oP 52 (.call 56 [tP 51])],[oP 47 (.load none (tP 46))]),([oP 53 (.fVal none 0 (tP 52)),oP 54 (.slV 60 (tP 47) none (some (tP 53)) none)],[oP 55 (.call 63 [tP 42,tP 43,tP 44,tP 54])],[]),([mV 14 55],[],[])]) (.seq (.ops [mV 56 14,oP 57 (.bin .neq (tP 56) (kI 0))]) (.cond (tP 57) (.seq (.ops [mV 58 14,oP 8 (.mv (kI 0)),mV 9 58]) .ret) .skip))) (.seq (.ops [oP 8 (.mv (kI 2)),oP 9 (.mv (kI 0))]) .ret))))))) (.ops [oP 59 (.bin .add (tP 17) (kI 1)),mV 17 59])))
def c55 : AC := .seq (.ops [oP 8 (.mv (kI 0)),oP 9 (.mv (kI 0))]) (.seq (.seq (.ops [mV 15 3,oP 16 (.lenS false (tP 15)),oP 17 (.mv (kI 0))]) (.block 0 (.loop c55_0))) (.seq (.ops [oP 8 (.mv (kI 0)),oP 9 (.mv (kI 8))]) .ret))
theorem k55 : compF Tryz.prog Tryz.f55 = some (c55, [8, 9]) := by kernel_rfl
theorem n55 : Tryz.f55.ntmps = 60 := by kernel_rfl
def c19 : AC := .seq (.ops [oP 8 (.mv (kI 0)),oP 9 (.mv (kI 0))]) (.seq (.ops [mV 14 0,mV 15 1,mV 16 2,oP 17 (.call 54 [tP 14,tP 15,tP 16]),mV 13 17,oP 18 (.extr (tP 13) 0),oP 19 (.extr (tP 13) 1),oP 10 (.alloc [.slice none 0 0,.slice none 0 0,.int .i64 0]),⟨none,none,.store 3 (tP 10) (tP 18)⟩,mV 11 19]) (.seq (.block 0 (.seq (.ops [mV 21 11,oP 22 (.bin .neq (tP 21) (kI 0)),mV 20 22]) (.cond (tP 20) (.seq (.ops [mV 23 11,oP 8 (.mv (kI 0)),mV 9 23]) .ret) (.seq (.ops [oP 25 (.fAddr 2 (tP 10)),oP 26 (.load none (tP 25)),oP 27 (.bin .eql (tP 26) (kI 0)),mV 24 27]) (.cond (tP 24) (.seq (.ops [oP 8 (.mv (kI 0)),oP 9 (.mv (kI 0))]) .ret) (.seq (.ops [oP 29 (.fAddr 2 (tP 10)),oP 30 (.load none (tP 29)),oP 31 (.bin .eql (tP 30) (kI 2)),mV 28 31]) (.cond (tP 28) (.seq (.ops [mV 32 0,mV 33 1,mV 34 2,mV 35 3,oP 36 (.call 55 [tP 32,tP 33,tP 34,tP 35]),oP 37 (.extr (tP 36) 0),oP 38 (.extr (tP 36) 1),mV 8 37,mV 9 38]) .ret) .skip))))))) (.seq (.seq (.ops [mV 39 0,mV 40 1,mV 41 2,oP 42 (.fAddr 0 (tP 10)),oP 43 (.load (some 2) (tP 42)),oP 44 (.fAddr 0 (tP 10)),oP 45 (.fAddr 1 (tP 44)),oP 46 (.load none (tP 45)),oP 47 (.call 31 [tP 39,tP 40,tP 41,tP 43,tP 46]),mV 12 47]) (.seq (.ops [mV 48 12,oP 49 (.bin .neq (tP 48) (kI 0))]) (.cond (tP 49) (.seq (.ops [mV 50 12,oP 8 (.mv (kI 0)),mV 9 50]) .ret) .skip))) (.seq (.ops [oP 8 (.mv (kI 1)),oP 9 (.mv (kI 0))]) .ret))))
theorem k19 : compF Tryz.prog Tryz.f19 = some (c19, [8, 9]) := by kernel_rfl
theorem n19 : Tryz.f19.ntmps = 51 := by kernel_rfl
def c21_0 : AC := .seq (.ops [oP 21 (.bin .lss (tP 20) (tP 19))]) (.seq (.cond (tP 21) .skip (.exit 0)) (.seq (.block 1 (.seq (.ops [mV 22 20,mV 9 22]) (.seq (.ops [mV 24 0,mV 25 1,mV 26 9,mV 27 2,oP 28 (.call 19 [tP 24,tP 25,tP 26,tP 27]),mV 23 28,oP 29 (.extr (tP 23) 0),oP 30 (.extr (tP 23) 1),mV 10 29,mV 11 30]) (.seq (.seq (.ops [mV 31 11,oP 32 (.bin .neq (tP 31) (kI 0))]) (.cond (tP 32) (.seq (.ops [mV 33 11,oP 6 (.mv (kI 0)),mV 7 33]) .ret) .skip)) (.seq (.ops [mV 34 10,oP 35 (.bin .neq (tP 34) (kI 0))]) (.cond (tP 35) (.ops [mV 36 8,oP 37 (.bin .add (tP 36) (kI 1)),mV 8 37]) .skip)))))) (.ops [oP 38 (.bin .add (tP 20) (kI 1)),mV 20 38])))
def c21 : AC := .seq (.ops [oP 6 (.mv (kI 0)),oP 7 (.mv (kI 0))]) (.seq (.seq (.ops [mV 12 0,oP 13 (.eqv false .ptr (tP 12) (.const (.pointer none)))]) (.cond (tP 13) (.seq (.ops [oP 6 (.mv (kI 0)),oP 7 (.mv (kI 1))]) .ret) .skip)) (.seq (.ops [oP 8 (.mv (kI 0))]) (.seq (.seq (.ops [mV 14 0,oP 15 (.nilck (tP 14)),oP 16 (.fAddr 0 (tP 15)),oP 17 (.load none (tP 16)),oP 18 (.call 56 [tP 17]),oP 19 (.fVal none 2 (tP 18)),oP 20 (.mv (kI 0))]) (.block 0 (.loop c21_0))) (.seq (.ops [mV 39 8,mV 6 39,oP 7 (.mv (kI 0))]) .ret))))
theorem k21 : compF Tryz.prog Tryz.f21 = some (c21, [6, 7]) := by kernel_rfl
theorem n21 : Tryz.f21.ntmps = 40 := by kernel_rfl
noncomputable def bor1 (A : ArB) (V : DevS) (a k : Nat) (o : Int) : Option (List (List UInt8)) := if o = a ∨ thereF A.S o k = false then none else rdF A.D A.P (strF A V o.toNat k)
noncomputable def borF (A : ArB) (V : DevS) (a k : Nat) (os : List Int) : Option (List (List UInt8)) := os.findSome? (bor1 A V a k)
def BorR (A : ArB) (V : DevS) (a k : Nat) (h : Heap) (lkd : Bool) (o : Option (List (List UInt8))) (r : Value) (h' : Heap) : Prop := match o with
 | none => r = .tuple #[.int .i64 0, .int .i64 8] ∧ ∃ q, ArK h' A (V.wop q) ∧ ArX A h h'
 | some X => if lkd = true then r = .tuple #[.int .i64 0, .int .i64 4] ∧ ∃ q, ArK h' A (V.wop q) ∧ ArX A h h'
  else r = .tuple #[.int .i64 2, .int .i64 0] ∧ ∃ V', ArK h' A V' ∧ Wrote A V V' a k (secs A (X.take A.D)) (A.D + A.P) ∧ ArX A h h'
structure BoS where
 j : Nat
 q : Int
 H : Heap
theorem rdF_len {d p : Nat} {l X : List (List UInt8)} (hl : l.length = d + p) (hl64 : ∀ x ∈ l, x.length = 64) (h : rdF d p l = some X) : X.length = d + p ∧ ∀ x ∈ X, x.length = 60 := by
 have key : ∀ (n : Nat) (B : List (List UInt8)) (W : Nat → Option (List UInt8)) (j : Nat) (X : List (List UInt8)), n ≤ B.length → (∀ x ∈ B, x.length = 60) → foldR n B W j = some X → X.length = B.length ∧ ∀ x ∈ X, x.length = 60 := fun n B W j => by
  induction j with
  | zero => intro X _ hB h; cases h; exact ⟨rfl, hB⟩
  | succ j ih =>
   intro X hn hB h
   unfold foldR at h
   split at h
   ·rename_i Y w h1 h2
    cases h
    obtain ⟨i1, i2⟩ := ih Y hn hB h1
    exact ⟨by rw [setK_len, i1], setK_60 i2 _ _ n (by omega)⟩
   ·cases h
 have hm : (l.map (List.take 60)).length = d + p := by rw [List.length_map, hl]
 have := key (d + p) _ _ 60 X (by rw [hm]; exact Nat.le_refl _) (fun x hx => by
  obtain ⟨y, hy, rfl⟩ := List.mem_map.1 hx
  rw [List.length_take, hl64 y hy]; rfl) h
 rw [hm] at this
 exact this
theorem borrow_ok (A : ArB) (V : DevS) (a k : Nat) (ha : a ≤ 2) (hk : k < A.S) (os : List Int) (hol : os.length ≤ 1000000) (ov : Value) (h : Heap) (hos : ∀ H, ArX A h H → Sl cI H ov os) (K : ArK h A V) (lkd : Bool) (hlk : if lkd = true then V.lock[secN A.D A.P A.S a k 0]! = true else ∀ i, i < A.D + A.P → V.lock[secN A.D A.P A.S a k i]! = false) :
  ACalls Tryz.prog 55 [.pointer (some ⟨A.a, 0, none⟩), .int .i64 (a : Int), .int .i64 (k : Int), ov] h (BorR A V a k h lkd (borF A V a k os)) := by
 refine acalls_of mix Tryz.func55 k55 n55 (by simp) fun hcl hb => ?_
 obtain ⟨l1, l2, l3, l4, l5⟩ := K.lo
 have hba := cellsOf_lt hcl K.ca
 have bo0 := hb ov (by simp)
 obtain ⟨aw, cw, rfl⟩ : ∃ aw cw, ov = .slice aw os.length cw := by
  rcases hos h (Xd.refl hcl) with ⟨c, rfl, rfl⟩ | ⟨b, o, cap, c, m, e, rfl, _⟩
  ·exact ⟨_, _, rfl⟩
  ·exact ⟨_, _, rfl⟩
 obtain ⟨⟨hd1, hd8⟩, ⟨hp2, hp6⟩, hn1, hn8⟩ := right_prop.1 K.rt
 have hm3 : ∀ u v w : Value, mcells (.agg #[u, v, w]) = some [u, v, w] := fun _ _ _ => rfl
 have hp3 : ∀ u v w : Value, aput [.slice none 0 0, .slice none 0 0, .int .i64 0] 0 [u, v, w] = [u, v, w] := fun _ _ _ => rfl
 simp [c55]
 refine awp_loop_of (α := BoS) (fun z => z.j ≤ os.length ∧ borF A V a k os = (os.drop z.j).findSome? (bor1 A V a k) ∧ ArK z.H A (V.wop z.q) ∧ ArX A h z.H) (fun z => [(0, .pointer (some ⟨A.a, 0, none⟩)), (1, .int .i64 (a : Int)), (2, .int .i64 (k : Int)), (8, .int .i64 0), (9, .int .i64 0), (15, .slice aw os.length cw), (16, .int .i64 os.length), (17, .int .i64 (z.j : Int))]) (fun z => z.H) (fun z => os.length - z.j) ⟨0, V.ops, h⟩
  ⟨Nat.zero_le _, rfl, K, Xd.refl hcl⟩ ⟨Nat.le_refl _, Nat.le_refl _, fun _ _ e => e, hcl⟩ (by simp; exact ⟨.ptr (by show A.a < _; omega), .int, .int, .int, bo0, .int, .int⟩) ?_
 rintro ⟨j, q, H⟩ ⟨hj, hbf, KH, gH⟩
 dsimp only at hj hbf KH gH ⊢
 have nH := gH.n
 by_cases hlt : j < os.length
 ·have hi' : (j : Int) < (os.length : Int) := by omega
  have w4 : IntKind.i64.wrap ((j : Int) + 1) = ((j + 1 : Nat) : Int) := by rw [IntWalk.i64_in _ (by omega)]; omega
  have hosH := hos H gH
  obtain ⟨b1, o1, cs, m1, e1, rfl, _, q1, q2⟩ := Sl.at hosH hlt
  obtain ⟨o, ho⟩ : ∃ o, os[j] = o := ⟨_, rfl⟩
  rw [ho] at q2
  have q3 : cs[o1 + j]? = some (.int .i64 o) := q2
  have hdrop : (os.drop j).findSome? (bor1 A V a k) = match bor1 A V a k o with | some X => some X | none => (os.drop (j + 1)).findSome? (bor1 A V a k) := by
   rw [List.drop_eq_getElem_cons hlt, List.findSome?_cons, ho]
   cases bor1 A V a k o <;> rfl
  have skip : ∀ (H' : Heap) (q' : Int), bor1 A V a k o = none → ArK H' A (V.wop q') → ArX A h H' → j + 1 ≤ os.length ∧ borF A V a k os = (os.drop (j + 1)).findSome? (bor1 A V a k) ∧ ArK H' A (V.wop q') ∧ ArX A h H' := fun H' q' hn K' g' => ⟨hlt, by rw [hbf, hdrop, hn], K', g'⟩
  by_cases hoa : o = (a : Int)
  ·have hn : bor1 A V a k o = none := by unfold bor1; rw [if_pos (.inl hoa)]
   simp [c55_0, hi', aidx_of hlt, q1, apart, q3, hoa, w4, -Int.natCast_add]
   exact ⟨⟨j + 1, q, H⟩, by show os.length - (j + 1) < os.length - j; omega, skip H q hn KH gH, ⟨nH, Nat.le_refl _, fun _ _ e => e, gH.cl⟩, .ptr (by show A.a < H.n; omega), .int, .int, .int, bo0.mono nH, .int, rfl, .int⟩
  cases hto : thereF A.S o k
  ·have hn : bor1 A V a k o = none := by unfold bor1; rw [if_pos (.inr hto)]
   simp [c55_0, hi', aidx_of hlt, q1, apart, q3, hoa, w4, -Int.natCast_add]
   refine (see_out A (V.wop q) o k hto H KH).mono' ?_
   rintro r H2 c2 _ ⟨rfl, g2⟩
   have f20 := cellsOf_new H2 [.slice none 0 0, .slice none 0 0, .int .i64 0] .ex 1
   have g3 : Gr H2 (H2.push (.cells [.slice none 0 0, .slice none 0 0, .int .i64 0] .ex 1)) := ⟨Nat.le_succ _, closed_push c2 (fun x hx => by
    simp at hx
    rcases hx with rfl | rfl
    ·exact .snil
    ·exact .int), keep_push c2 _⟩
   have gT := Xd.trans gH (Xd.of (g2.trans g3))
   have KT := KH.keep (g2.trans g3)
   simp [hm3, hp3, f20, set_push, w4, -Int.natCast_add]
   generalize H2.push (.cells [.slice none 0 0, .slice none 0 0, .int .i64 0] .ex 1) = H3 at *
   have nT := gT.n
   exact ⟨⟨j + 1, q, H3⟩, by show os.length - (j + 1) < os.length - j; omega, skip H3 q hn KT gT, ⟨nT, Nat.le_refl _, fun _ _ e => e, gT.cl⟩, .ptr (by show A.a < H3.n; omega), .int, .int, .int, bo0.mono nT, .int, rfl, .int⟩
  ·obtain ⟨o', rfl, ho2⟩ : ∃ o' : Nat, o = o' ∧ o' ≤ 2 := by
    unfold thereF at hto
    have := of_decide_eq_true hto
    exact ⟨o.toNat, by omega, by omega⟩
   have hb1 : bor1 A V a k (o' : Int) = rdF A.D A.P (strF A V o' k) := by unfold bor1; rw [if_neg (by rw [hto]; simp; omega)]; rfl
   simp [c55_0, hi', aidx_of hlt, q1, apart, q3, hoa, w4, -Int.natCast_add]
   refine (see_ok A (V.wop q) o' k ho2 hk H KH).mono' ?_
   rintro r H2 c2 _ ⟨hs, q2', K2, g2⟩
   have hst : strF A (V.wop q) o' k = strF A V o' k := rfl
   rw [hst] at hs
   have n2 := g2.n
   have K2' : ArK H2 A (V.wop q2') := K2
   unfold SeeR at hs
   cases hrd : rdF A.D A.P (strF A V o' k) with
   | none =>
    rw [hrd] at hs
    obtain rfl := hs
    have hn : bor1 A V a k (o' : Int) = none := by rw [hb1, hrd]
    have f20 := cellsOf_new H2 [.slice none 0 0, .slice none 0 0, .int .i64 0] .ex 1
    have f3 := cellsOf_new H2 [.slice none 0 0, .slice none 0 0, .int .i64 2] .ex 1
    have g3 : Gr H2 (H2.push (.cells [.slice none 0 0, .slice none 0 0, .int .i64 2] .ex 1)) := ⟨Nat.le_succ _, closed_push c2 (fun x hx => by
     simp at hx
     rcases hx with rfl | rfl
     ·exact .snil
     ·exact .int), keep_push c2 _⟩
    have gT := Xd.trans gH (Xd.trans g2 (Xd.of g3))
    have KT := K2'.keep g3
    simp [hm3, hp3, f20, set_push, f3, apart, w4, -Int.natCast_add]
    generalize H2.push (.cells [.slice none 0 0, .slice none 0 0, .int .i64 2] .ex 1) = H3 at *
    have nT := gT.n
    exact ⟨⟨j + 1, q2', H3⟩, by show os.length - (j + 1) < os.length - j; omega, skip H3 q2' hn KT gT, ⟨nT, Nat.le_refl _, fun _ _ e => e, gT.cl⟩, .ptr (by show A.a < H3.n; omega), .int, .int, .int, bo0.mono nT, .int, rfl, .int⟩
   | some X =>
    rw [hrd] at hs
    obtain ⟨va, vw, rfl, fd⟩ := hs
    obtain ⟨nm, nn, la, lw, na, nw, nx⟩ := fd
    obtain ⟨X1, X2⟩ := rdF_len (strF_len _ _ _ _) (strF_64 A V o' k ho2 hk h K) hrd
    have hbX : borF A V a k os = some X := by rw [hbf, hdrop, hb1, hrd]
    obtain ⟨u, md, es, rfl, rfl, hu, hul, hro, hes⟩ : ∃ u md e, nm = some u ∧ va = .slice (some ⟨u, 0, none⟩) X.length X.length ∧ H2.cellsOf u = some (ubs X.flatten, md, e) ∧ (ubs X.flatten).length = X.length * 60 ∧ md ≠ .ro ∧ (md.isLoose = true → e = 60) := by
     rcases la with ⟨_, _, q, _⟩ | q
     ·omega
     ·exact q
    have hml : (md.isLoose = true → es = 60) = True := eq_true hes
    have bva := lat_bel c2 la
    have bvw := lat_bel c2 lw
    obtain ⟨n, hn⟩ : ∃ n : Int, (if wrF X (strF A V o' k) (strF A V o' k).length = [] then 0 else 1) = n := ⟨_, rfl⟩
    have hn2 : ¬ n = 2 := by rw [← hn]; split <;> decide
    rw [hn]
    have f20 := cellsOf_new H2 [.slice none 0 0, .slice none 0 0, .int .i64 0] .ex 1
    have f3 := cellsOf_new H2 [.slice (some ⟨u, 0, none⟩) X.length X.length, vw, .int .i64 n] .ex 1
    have g3 : Gr H2 (H2.push (.cells [.slice (some ⟨u, 0, none⟩) X.length X.length, vw, .int .i64 n] .ex 1)) := ⟨Nat.le_succ _, closed_push c2 (fun x hx => by
     simp at hx
     rcases hx with rfl | rfl | rfl
     ·exact bva.mono (Nat.le_succ _)
     ·exact bvw.mono (Nat.le_succ _)
     ·exact .int), keep_push c2 _⟩
    have gT := Xd.trans gH (Xd.trans g2 (Xd.of g3))
    have KT := K2'.keep g3
    have u3 := cellsOf_keep g3.m hu
    have ca3 := KT.ca
    have hab : abounds X.length X.length none (some (.int .i64 (A.D : Int))) none = some (0, A.D, X.length) := abounds_hi (by omega)
    have hBl : (X.take A.D).length = A.D := by rw [List.length_take]; omega
    rw [hbX]
    simp [hm3, hp3, f20, set_push, f3, apart, hn2, ca3, w4, -Int.natCast_add]
    generalize H2.push (.cells [.slice (some ⟨u, 0, none⟩) X.length X.length, vw, .int .i64 n] .ex 1) = H3 at *
    have hbl : ∀ cp, BlS H3 (.slice (some ⟨u, 0, none⟩) A.D cp) (X.take A.D) := fun cp => ⟨fun y hy => X2 y (List.mem_of_mem_take hy), .inr ⟨u, 0, cp, _, _, _, by rw [hBl], u3, fun i hi => by
     rw [Nat.zero_add, List.getElem_take]
     exact flat_cut X2 i (by rw [hBl] at hi; omega)⟩⟩
    refine (cgeo_ok A.c A.k A.s A.f A.gw A.D A.P A.S H3 (KT.cod gT.cl)).mono ?_
    rintro _ h9 ⟨rfl, e⟩
    rw [e]; clear e h9
    have hgv : gv A.D A.P A.S = .agg #[.int .i64 (A.D : Int), .int .i64 (A.P : Int), .int .i64 (A.S : Int)] := rfl
    have nT := gT.n
    simp [hgv, apart, hab, u3, hml, f3]
    cases lkd with
    | true =>
     rw [if_pos rfl] at hlk
     refine (awrite_lock A (V.wop q2') a k ha hk (X.take A.D) hBl _ H3 KT (hbl _) hlk).mono' ?_
     rintro _ H4 c4 _ ⟨rfl, g4⟩
     simp [w4, -Int.natCast_add]
     exact ⟨rfl, q2', KT.keep g4, Xd.trans gT (Xd.of g4)⟩
    | false =>
     rw [if_neg (by decide)] at hlk
     refine (awrite_ok A (V.wop q2') a k ha hk (X.take A.D) hBl _ H3 KT (hbl _) hlk).mono' ?_
     rintro _ H4 c4 _ ⟨rfl, V4, K4, w5, g4⟩
     simp [w4, -Int.natCast_add]
     exact ⟨rfl, V4, K4, ⟨w5.lk, w5.at', w5.no⟩, Xd.trans gT g4⟩
 ·have hje : j = os.length := by omega
  subst hje
  have hb0 : borF A V a k os = none := by rw [hbf, List.drop_length]; rfl
  rw [hb0]
  simp [c55_0]
  exact ⟨rfl, q, KH, gH⟩

def RepR (A : ArB) (V : DevS) (a k : Nat) (h : Heap) (lkd : Bool) (os : List Int) (r : Value) (h' : Heap) : Prop := match rdF A.D A.P (strF A V a k) with
 | none => BorR A V a k h lkd (borF A V a k os) r h'
 | some X => if wrF X (strF A V a k) (strF A V a k).length = [] then r = .tuple #[.int .i64 0, .int .i64 0] ∧ ∃ q, ArK h' A (V.wop q) ∧ ArX A h h'
  else r = .tuple #[.int .i64 1, .int .i64 0] ∧ ∃ V', ArK h' A V' ∧ Rw A V V' a k (X.map crE) ((wrF X (strF A V a k) (strF A V a k).length).map fun i : Nat => (i : Int)) ∧ ArX A h h'
theorem bor_wop {A : ArB} {V : DevS} {q : Int} {a k : Nat} {os : List Int} : borF A (V.wop q) a k os = borF A V a k os := rfl
theorem BorR.wop {A : ArB} {V : DevS} {q : Int} {a k : Nat} {h h0 : Heap} {lkd : Bool} {o : Option (List (List UInt8))} {r : Value} {h' : Heap} (b : BorR A (V.wop q) a k h lkd o r h') (g : ArX A h0 h) : BorR A V a k h0 lkd o r h' := by
 unfold BorR at b ⊢
 cases o with
 | none =>
  obtain ⟨b1, q', b2, b3⟩ := b
  exact ⟨b1, q', b2, Xd.trans g b3⟩
 | some X =>
  dsimp only at b ⊢
  split at b
  ·rename_i hl
   rw [if_pos hl]
   obtain ⟨b1, q', b2, b3⟩ := b
   exact ⟨b1, q', b2, Xd.trans g b3⟩
  ·rename_i hl
   rw [if_neg hl]
   obtain ⟨b1, V', b2, b3, b4⟩ := b
   exact ⟨b1, V', b2, ⟨b3.lk, b3.at', b3.no⟩, Xd.trans g b4⟩
theorem repair_ok (A : ArB) (V : DevS) (a k : Nat) (ha : a ≤ 2) (hk : k < A.S) (os : List Int) (hol : os.length ≤ 1000000) (ov : Value) (h : Heap) (hos : ∀ H, ArX A h H → Sl cI H ov os) (K : ArK h A V) (lkd : Bool) (hlk : if lkd = true then V.lock[secN A.D A.P A.S a k 0]! = true else ∀ i, i < A.D + A.P → V.lock[secN A.D A.P A.S a k i]! = false) (hno : lkd = true → rdF A.D A.P (strF A V a k) = none) :
  ACalls Tryz.prog 19 [.pointer (some ⟨A.a, 0, none⟩), .int .i64 (a : Int), .int .i64 (k : Int), ov] h (RepR A V a k h lkd os) := by
 refine acalls_of mix Tryz.func19 k19 n19 (by simp) fun hcl hb => ?_
 obtain ⟨l1, l2, l3, l4, l5⟩ := K.lo
 have hba := cellsOf_lt hcl K.ca
 have hm3 : ∀ u v w : Value, mcells (.agg #[u, v, w]) = some [u, v, w] := fun _ _ _ => rfl
 have hp3 : ∀ u v w : Value, aput [.slice none 0 0, .slice none 0 0, .int .i64 0] 0 [u, v, w] = [u, v, w] := fun _ _ _ => rfl
 have hc2 : ∀ u v w : Value, acut [u, v, w] 0 2 = some [u, v] := fun _ _ _ => rfl
 simp [c19]
 refine (see_ok A V a k ha hk h K).mono' ?_
 rintro r H2 c2 _ ⟨hs, q, K2, g2⟩
 have n2 := g2.n
 unfold SeeR at hs
 cases hrd : rdF A.D A.P (strF A V a k) with
 | none =>
  rw [hrd] at hs
  obtain rfl := hs
  have f20 := cellsOf_new H2 [.slice none 0 0, .slice none 0 0, .int .i64 0] .ex 1
  have f3 := cellsOf_new H2 [.slice none 0 0, .slice none 0 0, .int .i64 2] .ex 1
  have g3 : Gr H2 (H2.push (.cells [.slice none 0 0, .slice none 0 0, .int .i64 2] .ex 1)) := ⟨Nat.le_succ _, closed_push c2 (fun x hx => by
   simp at hx
   rcases hx with rfl | rfl
   ·exact .snil
   ·exact .int), keep_push c2 _⟩
  have gT := Xd.trans g2 (Xd.of g3)
  have KT := K2.keep g3
  simp [hm3, hp3, f20, set_push, f3, apart]
  generalize H2.push (.cells [.slice none 0 0, .slice none 0 0, .int .i64 2] .ex 1) = H3 at *
  refine (borrow_ok A (V.wop q) a k ha hk os hol ov H3 (fun H g => hos H (Xd.trans gT g)) KT lkd hlk).mono' ?_
  rintro r H4 c4 _ hb4
  have hb5 := hb4.wop gT
  rw [bor_wop] at hb5
  have hR : RepR A V a k h lkd os r H4 := by
   unfold RepR
   rw [hrd]; exact hb5
  unfold BorR at hb5
  cases ho : borF A V a k os with
  | none =>
   rw [ho] at hb5
   obtain ⟨rfl, _⟩ := hb5
   simp
   exact hR
  | some X =>
   rw [ho] at hb5
   dsimp only at hb5
   split at hb5
   ·obtain ⟨rfl, _⟩ := hb5
    simp
    exact hR
   ·obtain ⟨rfl, _⟩ := hb5
    simp
    exact hR
 | some X =>
  rw [hrd] at hs
  obtain ⟨va, vw, rfl, fd⟩ := hs
  obtain ⟨nm, nn, la, lw, na, nw, nx⟩ := fd
  obtain ⟨X1, X2⟩ := rdF_len (strF_len _ _ _ _) (strF_64 A V a k ha hk h K) hrd
  have bva := lat_bel c2 la
  have bvw := lat_bel c2 lw
  have hlf : lkd = false := by
   cases lkd with
   | false => rfl
   | true => rw [hno rfl] at hrd; cases hrd
  subst hlf
  rw [if_neg (by decide)] at hlk
  obtain ⟨E, hE⟩ : ∃ E, wrF X (strF A V a k) (strF A V a k).length = E := ⟨_, rfl⟩
  have hElt : ∀ i ∈ E, i < A.D + A.P := fun i hi => by
   rw [← hE] at hi
   have := List.mem_range.1 (List.mem_filter.1 hi).1
   rw [strF_len] at this
   exact this
  have hEl : E.length ≤ A.D + A.P := by
   rw [← hE]
   have := wrF_len X (strF A V a k) (strF A V a k).length
   rw [strF_len] at this ⊢
   exact this
  obtain ⟨⟨hd1, hd8⟩, ⟨hp2, hp6⟩, hn1, hn8⟩ := right_prop.1 K.rt
  have hR : ∀ r h', (if E = [] then r = .tuple #[.int .i64 0, .int .i64 0] ∧ ∃ q, ArK h' A (V.wop q) ∧ ArX A h h' else r = .tuple #[.int .i64 1, .int .i64 0] ∧ ∃ V', ArK h' A V' ∧ Rw A V V' a k (X.map crE) (E.map fun i : Nat => (i : Int)) ∧ ArX A h h') → RepR A V a k h false os r h' := fun r h' q => by
   unfold RepR
   rw [hrd]
   dsimp only
   rw [hE]; exact q
  rw [hE] at lw ⊢
  have f20 := cellsOf_new H2 [.slice none 0 0, .slice none 0 0, .int .i64 0] .ex 1
  have f3 := fun n : Int => cellsOf_new H2 [va, vw, .int .i64 n] .ex 1
  have g3 : ∀ n : Int, Gr H2 (H2.push (.cells [va, vw, .int .i64 n] .ex 1)) := fun n => ⟨Nat.le_succ _, closed_push c2 (fun x hx => by
   simp at hx
   rcases hx with rfl | rfl | rfl
   ·exact bva.mono (Nat.le_succ _)
   ·exact bvw.mono (Nat.le_succ _)
   ·exact .int), keep_push c2 _⟩
  have gT := fun n => Xd.trans g2 (Xd.of (g3 n))
  have KT := fun n => K2.keep (g3 n)
  by_cases hE0 : E = []
  ·rw [if_pos hE0]
   simp [hm3, hp3, f20, set_push, f3, apart]
   exact hR _ _ (by rw [if_pos hE0]; exact ⟨rfl, q, KT 0, gT 0⟩)
  ·rw [if_neg hE0]
   have la1 := la
   rw [X1] at la1
   simp [hm3, hp3, f20, set_push, f3, apart, hc2]
   refine (rew_ok A (V.wop q) a k ha hk X X1 (E.map fun i : Nat => (i : Int)) (by rw [List.length_map]; omega) (fun w hw => by
    obtain ⟨i, hi, rfl⟩ := List.mem_map.1 hw
    have := hElt i hi
    omega) va vw vw _ (fun H' g' => lat_bls X1 X2 (la1.up fun u e ob e2 => by
     have := na u e
     have := (c2 u ob e2).1
     exact g'.m u ob ((g3 1).m u ob e2) (by omega) (by omega) (by omega) (by omega))) (bvw.mono (by show H2.n ≤ H2.n + 1; omega)) (fun H' g' => lat_ints (lw.up fun u e ob e2 => by
     have := nw u e
     have := (c2 u ob e2).1
     exact g'.m u ob ((g3 1).m u ob e2) (by omega) (by omega) (by omega) (by omega))) (KT 1) hlk).mono' ?_
   rintro _ HB cB _ ⟨rfl, V3, K10, rw3, gB⟩
   simp
   exact hR _ _ (by rw [if_neg hE0]; exact ⟨rfl, V3, K10, ⟨rw3.lk, rw3.at', rw3.no⟩, Xd.trans (gT 1) gB⟩)
theorem repair_out (A : ArB) (V : DevS) (a k : Int) (ht : thereF A.S a k = false) (ov : Value) (h : Heap) (K : ArK h A V) :
  ACalls Tryz.prog 19 [.pointer (some ⟨A.a, 0, none⟩), .int .i64 a, .int .i64 k, ov] h fun r h' => r = .tuple #[.int .i64 0, .int .i64 2] ∧ Gr h h' := by
 refine acalls_of mix Tryz.func19 k19 n19 (by simp) fun hcl hb => ?_
 simp [c19]
 refine (see_out A V a k ht h K).mono' ?_
 rintro r H2 c2 br ⟨rfl, g2⟩
 have hm3 : ∀ u v w : Value, mcells (.agg #[u, v, w]) = some [u, v, w] := fun _ _ _ => rfl
 have hp3 : ∀ u v w : Value, aput [.slice none 0 0, .slice none 0 0, .int .i64 0] 0 [u, v, w] = [u, v, w] := fun _ _ _ => rfl
 have f20 := cellsOf_new H2 [.slice none 0 0, .slice none 0 0, .int .i64 0] .ex 1
 simp [hm3, hp3, f20, set_push, apart]
 exact g2.trans ⟨Nat.le_succ _, closed_push c2 (fun x hx => by
  simp at hx
  rcases hx with rfl | rfl
  ·exact .snil
  ·exact .int), keep_push c2 _⟩
theorem mslot_nil (a : Int) (v : Value) (h : Heap) : ACalls Tryz.prog 21 [.pointer none, .int .i64 a, v] h fun r h' => r = .tuple #[.int .i64 0, .int .i64 1] ∧ Gr h h' := by
 refine acalls_of mix Tryz.func21 k21 n21 (by simp) fun hcl hb => ?_
 have hq : aeq .ptr (.pointer none) (.pointer none) = some true := rfl
 simp [c21, hq]
 exact Gr.refl hcl

def c13 : AC := .seq (.ops [oP 2 (.box (tP 0)),oP 4 (.mv (.const (.pointer none))),oP 5 (.mv (.const (.pointer none)))]) (.seq (.ops [oP 10 (.load (some 3) (tP 2)),oP 11 (.call 25 [tP 10]),mV 9 11,oP 12 (.extr (tP 9) 0),oP 13 (.extr (tP 9) 1),mV 6 12,mV 7 13]) (.seq (.seq (.ops [mV 14 6,oP 15 (.eqv false .ptr (tP 14) (.const (.pointer none)))]) (.cond (tP 15) (.seq (.ops [oP 4 (.mv (.const (.pointer none))),oP 5 (.mv (.const (.pointer none)))]) .ret) .skip)) (.seq (.ops [oP 16 (.build [.int .i64 0,.int .i64 0,.int .i64 0] [(0,1,.const (.int .i64 1))]),mV 17 1,oP 18 (.call 27 [tP 16,tP 17]),oP 8 (.alloc z36),⟨none,none,.store 36 (tP 8) (tP 18)⟩]) (.seq (.seq (.ops [mV 19 6,oP 20 (.load (some 36) (tP 8)),mV 21 1,oP 22 (.call 26 [tP 19,.const (.int .i64 1),tP 20,tP 21]),oP 23 (.bin .neq (tP 22) (kI 0)),mV 24 23,⟨some 25,some (24,false),.mv (tP 6)⟩,⟨some 26,some (24,false),.load (some 36) (tP 8)⟩,⟨some 27,some (24,false),.mv (tP 1)⟩,⟨some 28,some (24,false),.call 26 [tP 25,.const (.int .i64 2),tP 26,tP 27]⟩,⟨some 29,some (24,false),.bin .neq (tP 28) (kI 0)⟩,oP 30 (.pick (tP 24) (.const (.bool true)) (tP 29))]) (.cond (tP 30) (.seq (.ops [oP 4 (.mv (.const (.pointer none))),oP 5 (.mv (.const (.pointer none)))]) .ret) .skip)) (.seq (.ops [mV 31 6,mV 32 7,mV 4 31,mV 5 32]) .ret)))))
theorem k13 : compF Tryz.prog Tryz.f13 = some (c13, [4, 5]) := by kernel_rfl
theorem n13 : Tryz.f13.ntmps = 33 := by kernel_rfl
def c10 : AC := .seq (.ops [oP 0 (.mv (.const (.bool false)))]) (.seq (.ops [oP 10 (.build [.int .i64 0,.int .i64 0,.int .i64 0] [(0,1,.const (.int .i64 2)),(1,1,.const (.int .i64 2)),(2,1,.const (.int .i64 1))]),oP 1 (.alloc [.int .i64 0,.int .i64 0,.int .i64 0]),⟨none,none,.store 3 (tP 1) (tP 10)⟩]) (.seq (.ops [oP 12 (.load (some 3) (tP 1)),oP 13 (.call 13 [tP 12,.const (.string ⟨⟨[97,98,99]⟩⟩)]),mV 11 13,oP 14 (.extr (tP 11) 0),oP 15 (.extr (tP 11) 1),mV 2 14,mV 3 15]) (.seq (.seq (.ops [mV 16 2,oP 17 (.eqv false .ptr (tP 16) (.const (.pointer none)))]) (.cond (tP 17) (.seq (.ops [oP 0 (.mv (.const (.bool false)))]) .ret) .skip)) (.seq (.ops [mV 18 3,oP 19 (.load (some 3) (tP 1)),oP 20 (.call 35 [tP 19]),oP 21 (.call 46 [tP 18,tP 20])]) (.seq (.ops [mV 22 3,oP 23 (.load (some 3) (tP 1)),oP 24 (.call 35 [tP 23]),oP 25 (.bin .add (tP 24) (kI 3)),oP 26 (.call 46 [tP 22,tP 25])]) (.seq (.ops [mV 28 2,oP 29 (.call 18 [tP 28,.const (.int .i64 1),.const (.int .i64 0)]),mV 27 29,oP 30 (.extr (tP 27) 0),oP 31 (.extr (tP 27) 1),mV 4 30,mV 5 31]) (.seq (.ops [mV 33 2,oP 34 (.call 19 [tP 33,.const (.int .i64 1),.const (.int .i64 0),.const (.slice none 0 0)]),mV 32 34,oP 35 (.extr (tP 32) 0),oP 36 (.extr (tP 32) 1),mV 6 35,mV 7 36]) (.seq (.ops [mV 38 2,oP 39 (.call 18 [tP 38,.const (.int .i64 1),.const (.int .i64 0)]),mV 37 39,oP 40 (.extr (tP 37) 0),oP 41 (.extr (tP 37) 1),mV 8 40,mV 9 41]) (.seq (.ops [mV 42 4,oP 43 (.bin .eql (tP 42) (kI 1)),mV 44 43,⟨some 45,some (44,true),.mv (tP 6)⟩,⟨some 46,some (44,true),.bin .eql (tP 45) (kI 1)⟩,oP 47 (.pick (tP 44) (tP 46) (.const (.bool false))),mV 48 47,⟨some 49,some (48,true),.mv (tP 8)⟩,⟨some 50,some (48,true),.bin .eql (tP 49) (kI 0)⟩,oP 51 (.pick (tP 48) (tP 50) (.const (.bool false))),mV 52 51,⟨some 53,some (52,true),.mv (tP 5)⟩,⟨some 54,some (52,true),.bin .eql (tP 53) (kI 0)⟩,oP 55 (.pick (tP 52) (tP 54) (.const (.bool false))),mV 56 55,⟨some 57,some (56,true),.mv (tP 7)⟩,⟨some 58,some (56,true),.bin .eql (tP 57) (kI 0)⟩,oP 59 (.pick (tP 56) (tP 58) (.const (.bool false))),mV 60 59,⟨some 61,some (60,true),.mv (tP 9)⟩,⟨some 62,some (60,true),.bin .eql (tP 61) (kI 0)⟩,oP 63 (.pick (tP 60) (tP 62) (.const (.bool false))),mV 0 63]) .ret)))))))))
theorem k10 : compF Tryz.prog Tryz.f10 = some (c10, [0]) := by kernel_rfl
theorem n10 : Tryz.f10.ntmps = 64 := by kernel_rfl
def c4 : AC := .seq (.ops [oP 3 (.box (tP 0)),oP 6 (.mv (.const (.bool false)))]) (.seq (.seq (.ops [oP 22 (.call 10 []),oP 23 (.un .not (tP 22))]) (.cond (tP 23) (.seq (.ops [oP 6 (.mv (.const (.bool false)))]) .ret) .skip)) (.seq (.seq (.ops [oP 24 (.load (some 3) (tP 3)),oP 25 (.call 20 [tP 24]),oP 26 (.un .not (tP 25))]) (.cond (tP 26) (.seq (.ops [oP 6 (.mv (.const (.bool true)))]) .ret) .skip)) (.seq (.ops [oP 28 (.load (some 3) (tP 3)),oP 29 (.call 13 [tP 28,.const (.string ⟨⟨[]⟩⟩)]),mV 27 29,oP 30 (.extr (tP 27) 0),oP 31 (.extr (tP 27) 1),mV 7 30,mV 8 31]) (.seq (.seq (.ops [mV 32 7,oP 33 (.eqv false .ptr (tP 32) (.const (.pointer none)))]) (.cond (tP 33) (.seq (.ops [oP 34 (.load (some 3) (tP 3)),oP 35 (.call 12 [tP 34]),oP 36 (.bin .gtr (kI 0) (tP 35)),mV 6 36]) .ret) .skip)) (.seq (.ops [mV 37 1,oP 38 (.bin .geq (tP 37) (kI 0)),mV 39 38,⟨some 40,some (39,true),.mv (tP 1)⟩,⟨some 41,some (39,true),.bin .lss (tP 40) (kI 3)⟩,oP 42 (.pick (tP 39) (tP 41) (.const (.bool false))),mV 43 42,⟨some 44,some (43,true),.mv (tP 2)⟩,⟨some 45,some (43,true),.bin .geq (tP 44) (kI 0)⟩,oP 46 (.pick (tP 43) (tP 45) (.const (.bool false))),mV 47 46,⟨some 48,some (47,true),.mv (tP 2)⟩,⟨some 49,some (47,true),.fAddr 2 (tP 3)⟩,⟨some 50,some (47,true),.load none (tP 49)⟩,⟨some 51,some (47,true),.bin .lss (tP 48) (tP 50)⟩,oP 52 (.pick (tP 47) (tP 51) (.const (.bool false))),mV 9 52]) (.seq (.ops [mV 54 7,mV 55 1,mV 56 2,oP 57 (.call 18 [tP 54,tP 55,tP 56]),mV 53 57,oP 58 (.extr (tP 53) 0),oP 59 (.extr (tP 53) 1),mV 10 58,mV 11 59]) (.seq (.ops [mV 61 7,mV 62 1,mV 63 2,mV 64 1,oP 65 (.buildS 1 [.int .i64 0] [(0,1,.tmp 64)]),oP 66 (.call 19 [tP 61,tP 62,tP 63,tP 65]),mV 60 66,oP 67 (.extr (tP 60) 0),oP 68 (.extr (tP 60) 1),mV 12 67,mV 13 68]) (.seq (.ops [mV 70 1,oP 71 (.call 21 [.const (.pointer none),tP 70,.const (.slice none 0 0)]),mV 69 71,oP 72 (.extr (tP 69) 0),oP 73 (.extr (tP 69) 1),mV 14 72,mV 15 73]) (.seq (.ops [mV 75 1,mV 76 2,oP 77 (.call 18 [.const (.pointer none),tP 75,tP 76]),mV 74 77,oP 78 (.extr (tP 74) 0),oP 79 (.extr (tP 74) 1),mV 16 78,mV 17 79]) (.seq (.seq (.ops [mV 80 15,oP 81 (.bin .neq (tP 80) (kI 1)),mV 82 81,⟨some 83,some (82,false),.mv (tP 17)⟩,⟨some 84,some (82,false),.bin .neq (tP 83) (kI 1)⟩,oP 85 (.pick (tP 82) (.const (.bool true)) (tP 84)),mV 86 85,⟨some 87,some (86,false),.mv (tP 11)⟩,⟨some 88,some (86,false),.bin .eql (tP 87) (kI 2)⟩,⟨some 89,some (86,false),.mv (tP 9)⟩,⟨some 90,some (86,false),.un .not (tP 89)⟩,⟨some 91,some (86,false),.eqv true .bool (tP 88) (tP 90)⟩,oP 92 (.pick (tP 86) (.const (.bool true)) (tP 91)),mV 93 92,⟨some 94,some (93,false),.mv (tP 9)⟩,⟨some 95,some (93,false),.un .not (tP 94)⟩,⟨some 96,some (93,false),.mv (tP 95)⟩,⟨some 97,some (96,true),.mv (tP 13)⟩,⟨some 98,some (96,true),.bin .neq (tP 97) (kI 2)⟩,⟨some 99,some (93,false),.pick (tP 96) (tP 98) (.const (.bool false))⟩,oP 100 (.pick (tP 93) (.const (.bool true)) (tP 99))]) (.cond (tP 100) (.seq (.ops [oP 6 (.mv (.const (.bool false)))]) .ret) .skip)) (.seq (.ops [oP 102 (.load (some 3) (tP 3)),oP 103 (.call 22 [tP 102]),mV 101 103,oP 104 (.extr (tP 101) 0),oP 105 (.extr (tP 101) 1),mV 18 104,mV 19 105]) (.seq (.ops [mV 106 8,mV 107 18,mV 108 19,oP 109 (.call 23 [tP 106,tP 107,tP 108])]) (.seq (.ops [mV 111 7,oP 112 (.buildS 1 [.int .i64 0] [(0,1,.const (.int .i64 1))]),oP 113 (.call 19 [tP 111,.const (.int .i64 0),.const (.int .i64 0),tP 112]),mV 110 113,oP 114 (.extr (tP 110) 0),oP 115 (.extr (tP 110) 1),mV 20 114,mV 21 115]) (.seq (.ops [mV 116 21,oP 117 (.bin .eql (tP 116) (kI 4)),mV 6 117]) .ret))))))))))))))
theorem k4 : compF Tryz.prog Tryz.f4 = some (c4, [6]) := by kernel_rfl
theorem n4 : Tryz.f4.ntmps = 118 := by kernel_rfl
theorem secN_in {D P S a k i : Nat} (hk : k < S) (hi : i < D + P) : a * ((D + P) * S) ≤ secN D P S a k i ∧ secN D P S a k i < (a + 1) * ((D + P) * S) := by
 unfold secN
 have e1 : i * S + k < (D + P) * S := by
  calc i * S + k < i * S + S := by omega
   _ = (i + 1) * S := by rw [Nat.add_mul, Nat.one_mul]
   _ ≤ (D + P) * S := Nat.mul_le_mul_right _ (by omega)
 have e2 : (a + 1) * ((D + P) * S) = a * ((D + P) * S) + (D + P) * S := by rw [Nat.add_mul, Nat.one_mul]
 omega
theorem secN_ne {D P S a a' k k' i i' : Nat} (hk : k < S) (hi : i < D + P) (hk' : k' < S) (hi' : i' < D + P) (h : a ≠ a') : secN D P S a k i ≠ secN D P S a' k' i' := fun e => by
 have h1 := secN_in (a := a) hk hi
 have h2 := secN_in (a := a') hk' hi'
 rcases Nat.lt_or_gt_of_ne h with q | q
 ·have : (a + 1) * ((D + P) * S) ≤ a' * ((D + P) * S) := Nat.mul_le_mul_right _ q
  omega
 ·have : (a' + 1) * ((D + P) * S) ≤ a * ((D + P) * S) := Nat.mul_le_mul_right _ q
  omega
structure Two (A : ArB) (V : DevS) (x : Hd) (img : List UInt8) : Prop where
 f1 : Full A V 1 x img
 f2 : Full A V 2 x img
 b0 : ∀ k i, k < A.S → i < A.D + A.P → secF V (secN A.D A.P A.S 0 k i) = List.replicate 64 255
 lk : ∀ j, j < V.lock.length → V.lock[j]! = false
theorem filled_ok (D P S : Nat) (hr : right D P S = true) (img : List UInt8) (hi : (img.length : Int) ≤ roomF D P S) (h5 : img.length ≤ 100000) (h : Heap) :
  ACalls Tryz.prog 13 [gv D P S, .string (bs img)] h fun r h' => ∃ A V, r = .tuple #[.pointer (some ⟨A.a, 0, none⟩), .pointer (some ⟨A.d, 0, none⟩)] ∧ ArK h' A V ∧ Two A V ⟨1, 0, 0, (img.length : Int), shaB img⟩ img ∧ Blk A ⟨1, 0, 0, (img.length : Int), shaB img⟩ img ∧ Gr h h' ∧ (h.n ≤ A.a ∧ h.n ≤ A.d ∧ h.n ≤ A.x ∧ h.n ≤ A.y ∧ h.n ≤ A.z) ∧ A.D = D ∧ A.P = P ∧ A.S = S := by
 refine acalls_of mix Tryz.func13 k13 n13 (by simp) fun hcl hb => ?_
 have hq : ∀ p, aeq .ptr (.pointer (some p)) (.pointer none) = some false := fun _ => rfl
 have c1 : (h.push (.cells [.int .i64 D, .int .i64 P, .int .i64 S] .ex 1)).Closed := closed_push hcl (fun x hx => by simp at hx; rcases hx with rfl | rfl | rfl <;> exact .int)
 have f1 := cellsOf_new h [.int .i64 D, .int .i64 P, .int .i64 S] .ex 1
 have n1 : (h.push (.cells [.int .i64 D, .int .i64 P, .int .i64 S] .ex 1)).n = h.n + 1 := rfl
 have g1 : Gr h (h.push (.cells [.int .i64 D, .int .i64 P, .int .i64 S] .ex 1)) := ⟨Nat.le_succ _, c1, keep_push hcl _⟩
 have filA : afill [.int .i64 0, .int .i64 0, .int .i64 0] [(0, 1, .int .i64 1)] = some [.int .i64 1, .int .i64 0, .int .i64 0] := rfl
 have h30 : (.agg #[.int .i64 1, .int .i64 0, .int .i64 0] : Value) = v3 1 0 0 := rfl
 simp only [c13, s_seq, s_ops]
 simp [gvm, f1, apart, gvc, gva]
 generalize h.push (.cells [.int .i64 D, .int .i64 P, .int .i64 S] .ex 1) = H1 at *
 refine (fresh_ok D P S hr H1).mono' ?_
 rintro _ H3 c3 _ ⟨A, rfl, K3, g3, ha, hd, hx, hy, hz, hD, hP, hS⟩
 simp [hq, filA, h30]
 refine (hof_ok 1 0 0 img (by omega) H3).mono ?_
 rintro _ h9 ⟨rfl, e⟩
 rw [e]; clear e h9
 have hE := of_E K3.rt 1 0 0 (by unfold rng; decide) rng0 rng0 img (by rw [hD, hP, hS]; exact hi) (by omega)
 have free : ∀ a k i, a ≤ 2 → k < A.S → i < A.D + A.P → (dev0 (allS (D : Int) P S).toNat).lock[secN A.D A.P A.S a k i]! = false := fun a k i ha hk hi => secs_free (D := D) (P := P) (S := S) _ _ (by
  have := (secN_lt K3.rt ha hk hi).1
  rw [hD, hP, hS] at this
  rw [hD, hP, hS]
  omega)
 obtain ⟨xB, hxB⟩ : ∃ xB : Hd, (⟨1, 0, 0, (img.length : Int), shaB img⟩ : Hd) = xB := ⟨_, rfl⟩
 have hsB : xB.hs = shaB img := by rw [← hxB]
 have hx32 : xB.hs.length = 32 := by rw [hsB]; exact shaB_len _
 rw [hxB] at hE
 rw [hxB]
 have hlen : (hc xB).length = 36 := by simp [hc, ubs_len, hx32]
 have hz36 : z36.length = 36 := by rw [z36_eq]; simp [hc, ubs_len, zH, z32]
 have hpx : aput z36 0 (hc xB) = hc xB := by
  unfold aput
  rw [hlen, List.drop_eq_nil_of_le (by rw [hz36]; omega)]
  simp
 have c36 := acut_full hlen
 have hva : (.agg (hc xB).toArray : Value) = hv xB := rfl
 have fz := cellsOf_new H3 z36 .ex 1
 have fx := cellsOf_new H3 (hc xB) .ex 1
 have cN : (H3.push (.cells (hc xB) .ex 1)).Closed := closed_push c3 hc_bel
 have gN : Gr H3 (H3.push (.cells (hc xB) .ex 1)) := ⟨Nat.le_succ _, cN, keep_push c3 _⟩
 have nN : (H3.push (.cells (hc xB) .ex 1)).n = H3.n + 1 := rfl
 obtain ⟨l1, l2, l3, l4, l5⟩ := K3.lo
 have a3n : A.a < H3.n := cellsOf_lt c3 K3.ca
 have n13 := g3.n
 have n01 := g1.n
 simp [fz, m_hv, m_hc, hlen, hz36, hpx, set_push, fx, c36, hva, apart]
 generalize H3.push (.cells (hc xB) .ex 1) = H4 at *
 have K4 := K3.keep gN
 refine (fill_ok A _ 1 (by omega) xB hx32 img (by omega) hE H4 K4 (fun k i hk hi => free 1 k i (by omega) hk hi)).mono' ?_
 rintro _ H5 c5 _ ⟨rfl, V5, K5, w5, g5⟩
 have fx5 : H5.cellsOf H3.n = some (hc xB, .ex, 1) := by
  have := g5.m _ _ (m_of_cells fx) (by omega) (by omega) (by omega) (by omega)
  unfold Heap.cellsOf; rw [this]
 simp [fx5, c36, hva, apart]
 refine (fill_ok A V5 2 (by omega) xB hx32 img (by omega) hE H5 K5 (fun k i hk hi => by rw [w5.lk]; exact free 2 k i (by omega) hk hi)).mono' ?_
 rintro _ H6 c6 _ ⟨rfl, V6, K6, w6, g6⟩
 simp
 have hdl : (dev0 (allS (D : Int) P S).toNat).lock.length = (allS (D : Int) P S).toNat := by show (List.replicate _ false).length = _; simp
 have gT : Gr h H6 := ⟨by have := g5.n; have := g6.n; omega, c6, fun u ob e => by
  have hu := (hcl u ob e).1
  have e1 := gN.m _ _ (g3.m _ _ (g1.m u ob e))
  exact g6.m u ob (g5.m u ob e1 (by omega) (by omega) (by omega) (by omega)) (by omega) (by omega) (by omega) (by omega)⟩
 refine ⟨A, ⟨rfl, rfl⟩, V6, K6, ⟨fun k hk => ?_, Full.of w6, fun k i hk hi => ?_, fun j hj => ?_⟩, blk_ok A K6.rt xB hx32 img hE, gT, ⟨by omega, by omega, by omega, by omega, by omega⟩, hD, hP, hS⟩
 ·rw [← Full.of w5 k hk]
  unfold strF
  refine List.map_congr_left fun i hi => ?_
  have hi' := List.mem_range.1 hi
  exact w6.no _ (secN_fit K5 (by omega) hk hi') fun k' i' hk' hi'' => secN_ne hk hi' hk' hi'' (by omega)
 ·rw [w6.no _ (secN_fit K5 (by omega) hk hi) fun k' i' hk' hi'' => secN_ne hk hi hk' hi'' (by omega)]
  have hfit := secN_fit K4 (a := 0) (by omega) hk hi
  rw [w5.no _ hfit fun k' i' hk' hi'' => secN_ne hk hi hk' hi'' (by omega)]
  exact secF_blank (by rw [hdl] at hfit; exact hfit)
 ·rw [w6.lk, w5.lk] at hj ⊢
  exact secs_free (D := D) (P := P) (S := S) _ _ (by rw [hdl] at hj; exact hj)
theorem erase_laid {V : DevS} (u : DevU V) {n : Nat} (hn : n < V.lock.length) : Laid V (V.erase n) n (List.replicate 64 255) := by
 have hd := u.dl
 have hl : (putB V.data (64 * n) (List.replicate 64 (255 : UInt8))).length = V.data.length := putB_len _ _ _ (by simp; omega)
 have hw : (putB V.wear n [IntKind.i64.wrap (V.wear[n]! + 1)]).length = V.wear.length := putB_len _ _ _ (by have := u.wl; simp; omega)
 exact ⟨⟨u.up, u.lf, by show (putB V.data _ _).length = 64 * V.lock.length; rw [hl, hd], by show (putB V.wear _ _).length = V.lock.length; rw [hw]; exact u.wl, u.nl⟩, rfl, fun m hm => secF_put V.data n (List.replicate 64 255) (by simp) V.lock.length hd hn m hm⟩
theorem _root_.Go.Proofs.YtdnmkenamgfjoaaGreat.arbi.Rw.mended {A : ArB} {V2 V3 : DevS} {a k : Nat} {X : List (List UInt8)} {h : Heap} (K : ArK h A V2) (ha : a ≤ 2) (hk : k < A.S) (hX : X.length = A.D + A.P) (r : Rw A V2 V3 a k (X.map crE) ((wrF X (strF A V2 a k) (strF A V2 a k).length).map fun i : Nat => (i : Int))) : strF A V3 a k = X.map crE :=
 r.full K ha hk hX fun i hi hn => by
  have h1 : ¬ crE X[i]! ≠ (strF A V2 a k)[i]! := fun q => hn (List.mem_filter.2 ⟨by rw [strF_len]; exact List.mem_range.2 hi, decide_eq_true q⟩)
  have h2 : crE X[i]! = (strF A V2 a k)[i]! := Classical.byContradiction h1
  rw [h2, getElem!_pos _ i (by rw [strF_len]; exact hi)]
  simp [strF]
theorem look_full {A : ArB} {V : DevS} {a k : Nat} {x : Hd} {img : List UInt8} (hr : right A.D A.P A.S = true) (B : Blk A x img) (hk : k < A.S) (hs : strF A V a k = (blkF A x img k).map crE) : lookF A.D A.P (strF A V a k) = 0 := by
 unfold lookF
 rw [rdF_full hr B hk hs]
 dsimp only
 rw [if_pos (by rw [strF_len]; exact wrF_full B hk hs)]

theorem range4 : List.range 4 = [0, 1, 2, 3] := rfl
theorem mawake_ok (h : Heap) : ACalls Tryz.prog 10 [] h fun v h' => v = .bool true ∧ h' = h := by
 refine ACalls.same .bool (acalls_of mix Tryz.func10 k10 n10 (by simp) fun hcl hb => ?_)
 have hq : ∀ p, aeq .ptr (.pointer (some p)) (.pointer none) = some false := fun _ => rfl
 have fil1 : afill [.int .i64 0, .int .i64 0, .int .i64 0] [(0, 1, .int .i64 2), (1, 1, .int .i64 2), (2, 1, .int .i64 1)] = some [.int .i64 2, .int .i64 2, .int .i64 1] := rfl
 have hg : (.agg #[.int .i64 2, .int .i64 2, .int .i64 1] : Value) = gv ((2 : Nat) : Int) ((2 : Nat) : Int) ((1 : Nat) : Int) := rfl
 have hmg : mcells (.agg #[.int .i64 2, .int .i64 2, .int .i64 1]) = some [.int .i64 2, .int .i64 2, .int .i64 1] := rfl
 have hpg : aput [.int .i64 0, .int .i64 0, .int .i64 0] 0 [.int .i64 2, .int .i64 2, .int .i64 1] = [.int .i64 2, .int .i64 2, .int .i64 1] := rfl
 have hcg : acut [.int .i64 2, .int .i64 2, .int .i64 1] 0 3 = some [.int .i64 2, .int .i64 2, .int .i64 1] := rfl
 have c1 : (h.push (.cells [.int .i64 2, .int .i64 2, .int .i64 1] .ex 1)).Closed := closed_push hcl (fun x hx => by simp at hx; rcases hx with rfl | rfl <;> exact .int)
 have f1 := cellsOf_new h [.int .i64 2, .int .i64 2, .int .i64 1] .ex 1
 have f10 := cellsOf_new h [.int .i64 0, .int .i64 0, .int .i64 0] .ex 1
 have g1 : Gr h (h.push (.cells [.int .i64 2, .int .i64 2, .int .i64 1] .ex 1)) := ⟨Nat.le_succ _, c1, keep_push hcl _⟩
 have n1 : (h.push (.cells [.int .i64 2, .int .i64 2, .int .i64 1] .ex 1)).n = h.n + 1 := rfl
 simp only [c10, s_seq, s_ops]
 simp [fil1, hmg, hpg, f10, set_push, f1, hcg, apart, bs_lit]
 generalize h.push (.cells [.int .i64 2, .int .i64 2, .int .i64 1] .ex 1) = H1 at *
 rw [hg]
 refine (filled_ok 2 2 1 (by decide) [97, 98, 99] (by decide) (by simp) H1).mono' ?_
 rintro _ H2 c2 _ ⟨A, V, rfl, K2, two, B, g2, ⟨a1, a2, a3, a4, a5⟩, hD, hP, hS⟩
 generalize (⟨1, 0, 0, (([97, 98, 99] : List UInt8).length : Int), shaB [97, 98, 99]⟩ : Hd) = xB at *
 generalize ([97, 98, 99] : List UInt8) = img at *
 have f2 := cellsOf_keep g2.m f1
 have hsl : slot ((2 : Nat) : Int) ((2 : Nat) : Int) ((1 : Nat) : Int) = 4 := by decide
 obtain ⟨l1, l2, l3, l4, l5⟩ := K2.lo
 have n2 := g2.n
 have a2n : A.a < H2.n := cellsOf_lt c2 K2.ca
 have hall : allS (A.D : Int) A.P A.S = 30 := by rw [hD, hP, hS]; decide
 have hlen : 30 ≤ V.lock.length := by have := K2.sz; omega
 have sec : ∀ i, secN A.D A.P A.S 1 0 i = 4 + i := fun i => by unfold secN; rw [hD, hP, hS]; omega
 have hS0 : 0 < A.S := by omega
 have hDP : A.D + A.P = 4 := by omega
 simp [hq, f2, hcg, apart]
 rw [hg]
 refine (slot_ok _ _ _ H2).mono ?_
 rintro _ h9 ⟨rfl, e⟩
 rw [e]; clear e h9
 rw [hsl]
 simp
 refine (ferase_ok A.d A.x A.y A.z V K2.du 4 (by omega) (two.lk 4 (by omega)) H2 K2.dv).mono' ?_
 rintro _ H3 c3 _ ⟨rfl, dk3, g3⟩
 have la3 := erase_laid K2.du (n := 4) (by omega)
 have K3 := K2.keepX g3 dk3 la3.u (by rw [la3.lk])
 have f3 : H3.cellsOf h.n = some ([.int .i64 2, .int .i64 2, .int .i64 1], .ex, 1) := by
  have hlt := cellsOf_lt c1 f1
  have := g3.m _ _ (m_of_cells f2) (by omega) (by omega) (by omega) (by omega)
  unfold Heap.cellsOf; rw [this]
 simp [f3, hcg, apart]
 rw [hg]
 refine (slot_ok _ _ _ H3).mono ?_
 rintro _ h9 ⟨rfl, e⟩
 rw [e]; clear e h9
 rw [hsl]
 have w7 : IntKind.i64.wrap 7 = ((7 : Nat) : Int) := by decide
 have w7' : IntKind.i64.wrap (4 + 3) = ((7 : Nat) : Int) := by decide
 simp [w7, w7']
 refine (ferase_ok A.d A.x A.y A.z _ la3.u 7 (by rw [la3.lk]; omega) (by rw [la3.lk]; exact two.lk 7 (by omega)) H3 dk3).mono' ?_
 rintro _ H4 c4 _ ⟨rfl, dk4, g4⟩
 have la4 := erase_laid la3.u (n := 7) (by rw [la3.lk]; omega)
 have K4 := K3.keepX g4 dk4 la4.u (by rw [la4.lk])
 generalize (V.erase 4).erase 7 = V2 at *
 have hlk2 : V2.lock = V.lock := by rw [la4.lk, la3.lk]
 have str : ∀ i, i < 4 → (strF A V2 1 0)[i]! = if i = 0 ∨ i = 3 then List.replicate 64 255 else crE (blkF A xB img 0)[i]! := fun i hi => by
  rw [getElem!_pos _ i (by rw [strF_len]; omega)]
  have e0 : (strF A V2 1 0)[i]'(by rw [strF_len]; omega) = secF V2 (4 + i) := by simp [strF, sec]
  have e1 := congrArg (fun l => l[i]!) (two.f1 0 hS0)
  rw [getElem!_pos (strF A V 1 0) i (by rw [strF_len]; omega), getElem!_pos ((blkF A xB img 0).map crE) i (by rw [List.length_map, (B.len 0 hS0).1]; omega), List.getElem_map] at e1
  have e2 : (strF A V 1 0)[i]'(by rw [strF_len]; omega) = secF V (4 + i) := by simp [strF, sec]
  rw [e0, la4.se _ (by rw [la3.lk]; omega), la3.se _ (by omega)]
  by_cases h3 : i = 3
  ·subst h3; rfl
  ·rw [if_neg (by omega)]
   by_cases h0 : i = 0
   ·subst h0; rfl
   ·rw [if_neg (by omega), if_neg (by omega), ← e2, e1, getElem!_pos (blkF A xB img 0) i (by rw [(B.len 0 hS0).1]; omega)]
 have Bl : ∀ i, i < 4 → ((blkF A xB img 0)[i]!).length = 60 := fun i hi => by
  rw [getElem!_pos _ i (by rw [(B.len 0 hS0).1]; omega)]
  exact (B.len 0 hS0).2 _ (List.getElem_mem _)
 have bl60 : (List.replicate 64 (255 : UInt8)).take 60 = List.replicate 60 255 := by rw [List.take_replicate]; rfl
 have hl4 : (strF A V2 1 0).length = 4 := by rw [strF_len]; omega
 have hEr : erF (strF A V2 1 0) = [0, 3] := by
  unfold erF
  rw [hl4, range4]
  have s0 := str 0 (by omega)
  have s1 := str 1 (by omega)
  have s2 := str 2 (by omega)
  have s3 := str 3 (by omega)
  simp only [true_or, or_true, if_true] at s0 s3
  rw [if_neg (by omega)] at s1 s2
  have bb := blank_bad
  generalize List.replicate 64 (255 : UInt8) = bk at s0 s3 bl60 bb
  generalize List.replicate 60 (255 : UInt8) = b6 at bl60 bb
  simp only [List.filter_cons, List.filter_nil, s0, s1, s2, s3, bl60, crE_take (Bl 1 (by omega)), crE_take (Bl 2 (by omega))]
  simp [bb]
 have hrd : rdF A.D A.P (strF A V2 1 0) = some (blkF A xB img 0) := rdF_er (by omega) (strF_64 A V2 1 0 (by omega) hS0 H4 K4) (strF_len _ _ _ _) (B.len 0 hS0).1 (B.len 0 hS0).2 (by rw [hEr, hP]; exact Nat.le_refl 2) (B.rt 0 hS0) fun i hi hn => by
  rw [hEr] at hn
  have h03 : ¬ (i = 0 ∨ i = 3) := fun q => hn (by rcases q with rfl | rfl <;> simp)
  rw [str i (by omega), if_neg h03, crE_take (Bl i (by omega))]
 have hwr : wrF (blkF A xB img 0) (strF A V2 1 0) (strF A V2 1 0).length ≠ [] := fun q => by
  have : 0 ∈ wrF (blkF A xB img 0) (strF A V2 1 0) (strF A V2 1 0).length := by
   unfold wrF
   refine List.mem_filter.2 ⟨List.mem_range.2 (by omega), decide_eq_true fun e => ?_⟩
   rw [str 0 (by omega), if_pos (.inl rfl)] at e
   have h60 := Bl 0 (by omega)
   have e2 := congrArg (List.take 60) e
   rw [crE_take h60, bl60] at e2
   rw [e2] at e
   exact blank_bad e
  rw [q] at this
  cases this
 have hlook : lookF A.D A.P (strF A V2 1 0) = 1 := by
  unfold lookF
  rw [hrd]
  dsimp only
  rw [if_neg hwr]
 simp
 refine (look_ok A V2 1 0 (by omega) hS0 H4 K4).mono' ?_
 rintro _ H5 c5 _ ⟨rfl, q5, K5, g5⟩
 rw [hlook]
 simp
 refine (repair_ok A (V2.wop q5) 1 0 (by omega) hS0 [] (by simp) (.slice none 0 0) H5 (fun _ _ => .inl ⟨0, rfl, rfl⟩) K5 false (by
  rw [if_neg (by decide)]
  intro i hi
  show V2.lock[_]! = false
  rw [hlk2, sec]
  exact two.lk _ (by omega)) (fun q => by cases q)).mono' ?_
 rintro r H6 c6 _ hr6
 unfold RepR at hr6
 have hst : strF A (V2.wop q5) 1 0 = strF A V2 1 0 := rfl
 rw [hst, hrd] at hr6
 dsimp only at hr6
 rw [if_neg hwr] at hr6
 obtain ⟨rfl, V3, K6, rw6, g6⟩ := hr6
 have full3 := Rw.mended K5 (by omega) hS0 (B.len 0 hS0).1 rw6
 simp
 refine (look_ok A V3 1 0 (by omega) hS0 H6 K6).mono' ?_
 rintro _ H7 c7 _ ⟨rfl, q7, K7, g7⟩
 rw [look_full K6.rt B hS0 full3]
 simp
 have gT := Xd.trans g3 (Xd.trans g4 (Xd.trans g5 (Xd.trans g6 g7)))
 have n7 := gT.n
 exact ⟨by omega, fun u ob e => by
  have hu := (hcl u ob e).1
  have e2 := g2.m u ob (g1.m u ob e)
  exact gT.m u ob e2 (by omega) (by omega) (by omega) (by omega)⟩

theorem sl_oneI {H : Heap} {u : Nat} {w : Int} {m : BMode} {e : Nat} (h : H.cellsOf u = some ([cI w], m, e)) (hm : m = .ex) (he : e = 1) : Sl cI H (.slice (some ⟨u, 0, none⟩) 1 1) [w] := by
 subst hm he
 refine .inr ⟨u, 0, 1, [cI w], .ex, 1, rfl, h, by simp, by simp, fun i hi => ?_⟩
 have : i = 0 := by simpa using hi
 subst this; rfl
theorem rep_two {A : ArB} {V : DevS} {x : Hd} {img : List UInt8} {a k : Nat} {h h' : Heap} {r : Value} (hr : right A.D A.P A.S = true) (two : Two A V x img) (B : Blk A x img) (ha : a ≤ 2) (hk : k < A.S) (R : RepR A V a k h false [(a : Int)] r h') : (∃ e, r = .tuple #[.int .i64 0, .int .i64 e]) ∧ ∃ q, ArK h' A (V.wop q) ∧ ArX A h h' := by
 have hD := (right_prop.1 hr).1.1
 unfold RepR at R
 have full : ∀ a, strF A V a k = (blkF A x img k).map crE → (match rdF A.D A.P (strF A V a k) with
  | none => BorR A V a k h false (borF A V a k [(a : Int)]) r h'
  | some X => if wrF X (strF A V a k) (strF A V a k).length = [] then r = .tuple #[.int .i64 0, .int .i64 0] ∧ ∃ q, ArK h' A (V.wop q) ∧ ArX A h h'
   else r = .tuple #[.int .i64 1, .int .i64 0] ∧ ∃ V', ArK h' A V' ∧ Rw A V V' a k (X.map crE) ((wrF X (strF A V a k) (strF A V a k).length).map fun i : Nat => (i : Int)) ∧ ArX A h h') → (∃ e, r = .tuple #[.int .i64 0, .int .i64 e]) ∧ ∃ q, ArK h' A (V.wop q) ∧ ArX A h h' := fun a hs R => by
  rw [rdF_full hr B hk hs] at R
  dsimp only at R
  rw [strF_len, if_pos (wrF_full B hk hs)] at R
  exact ⟨⟨0, R.1⟩, R.2⟩
 match a, ha with
 | 0, _ =>
  rw [strF_blank (two.b0 k · hk), rdF_blank (by omega)] at R
  dsimp only at R
  have hb : borF A V 0 k [((0 : Nat) : Int)] = none := by
   unfold borF
   rw [List.findSome?_cons]
   unfold bor1
   rw [if_pos (.inl rfl)]; rfl
  rw [hb] at R
  exact ⟨⟨8, R.1⟩, R.2⟩
 | 1, _ => exact full 1 (two.f1 k hk) R
 | 2, _ => exact full 2 (two.f2 k hk) R
set_option maxHeartbeats 2000000 in
theorem mendErrors_t (d p s a k : Int) (h : Heap) (h1 : 0 ≤ a) (h2 : a < 3) (h3 : 0 ≤ k) (h4 : k < s) : ACalls Tryz.prog 4 [gv d p s, .int .i64 a, .int .i64 k] h fun v _ => v = .bool true ∧ True := by
 refine acalls_of mix Tryz.func4 k4 n4 (by simp) fun hcl hb => ?_
 have hq : ∀ p, aeq .ptr (.pointer (some p)) (.pointer none) = some false := fun _ => rfl
 have hbq : ∀ a b : Bool, aeq .bool (.bool a) (.bool b) = some (decide (a = b)) := fun a b => by cases a <;> cases b <;> rfl
 have c1 : (h.push (.cells [.int .i64 d, .int .i64 p, .int .i64 s] .ex 1)).Closed := closed_push hcl (fun x hx => by simp at hx; rcases hx with rfl | rfl | rfl <;> exact .int)
 have f1 := cellsOf_new h [.int .i64 d, .int .i64 p, .int .i64 s] .ex 1
 have n1 : (h.push (.cells [.int .i64 d, .int .i64 p, .int .i64 s] .ex 1)).n = h.n + 1 := rfl
 simp only [c4, s_seq, s_ops]
 simp [gvm]
 generalize h.push (.cells [.int .i64 d, .int .i64 p, .int .i64 s] .ex 1) = H1 at *
 refine (mawake_ok H1).mono ?_
 rintro _ h9 ⟨rfl, e⟩
 rw [e]; clear e h9
 simp [aun, f1, apart, gvc, gva]
 refine (gRefRight_ok d p s H1).mono ?_
 rintro _ h9 ⟨rfl, e⟩
 rw [e]; clear e h9
 cases hr : right d p s
 ·simp [aun]
 obtain ⟨D, P, S, rfl, rfl, rfl⟩ := nats_of hr
 simp [aun, f1, apart, gvc, gva, bs_lit]
 refine (filled_ok D P S hr [] (room0 _ _ _) (by simp) H1).mono' ?_
 rintro _ H2 c2 _ ⟨A, V, rfl, K2, two, B, g2, ⟨a1, a2, a3, a4, a5⟩, hD, hP, hS⟩
 generalize (⟨1, 0, 0, (([] : List UInt8).length : Int), shaB []⟩ : Hd) = xB at *
 have f2 := cellsOf_keep g2.m f1
 obtain ⟨l1, l2, l3, l4, l5⟩ := K2.lo
 have n2 := g2.n
 have a2n : A.a < H2.n := cellsOf_lt c2 K2.ca
 obtain ⟨⟨hd1, hd8⟩, ⟨hp2, hp6⟩, hn1, hn8⟩ := right_prop.1 hr
 have fx : ∀ {Hb : Heap}, ArX A H2 Hb → Hb.cellsOf h.n = some ([.int .i64 D, .int .i64 P, .int .i64 S], .ex, 1) := fun g => by
  have hlt := cellsOf_lt c1 f1
  have := g.m _ _ (m_of_cells f2) (by omega) (by omega) (by omega) (by omega)
  unfold Heap.cellsOf; rw [this]
 have ht : thereF A.S a k = true := by
  unfold thereF
  exact decide_eq_true (by rw [hS]; omega)
 simp [hq, f2, apart, aun, h1, h2, h3, h4]
 obtain ⟨a', rfl⟩ : ∃ a' : Nat, a = a' := ⟨a.toNat, by omega⟩
 obtain ⟨k', rfl⟩ : ∃ k' : Nat, k = k' := ⟨k.toNat, by omega⟩
 refine (look_ok A V a' k' (by omega) (by omega) H2 K2).mono' ?_
 rintro _ H3 c3 _ ⟨rfl, q3, K3, g3⟩
 have fil1 : afill [.int .i64 0] [(0, 1, .int .i64 (a' : Int))] = some [cI a'] := rfl
 have c4 : (H3.push (.cells [cI a'] .ex 1)).Closed := closed_push c3 (fun x hx => by simp at hx; subst hx; exact .int)
 have g4 : Gr H3 (H3.push (.cells [cI a'] .ex 1)) := ⟨Nat.le_succ _, c4, keep_push c3 _⟩
 have e4 := cellsOf_new H3 [cI a'] .ex 1
 have n3 := g3.n
 simp [fil1]
 refine (repair_ok A (V.wop q3) a' k' (by omega) (by omega) [(a' : Int)] (by simp) (.slice (some ⟨H3.n, 0, none⟩) 1 1) _ (fun H g => sl_oneI (m := .ex) (e := 1) (by
  have := g.m _ _ (m_of_cells e4) (by omega) (by omega) (by omega) (by omega)
  unfold Heap.cellsOf; rw [this]) rfl rfl) (K3.keep g4) false (by
  rw [if_neg (by decide)]
  intro i hi
  exact two.lk _ (secN_fit K2 (by omega) (by omega) hi)) (fun q => by cases q)).mono' ?_
 rintro r H5 c5 _ R5
 obtain ⟨⟨e, rfl⟩, q5, K5', g5⟩ := rep_two K2.rt (V := V.wop q3) ⟨two.f1, two.f2, two.b0, two.lk⟩ B (by omega) (by omega) R5
 have K5 : ArK H5 A (V.wop q5) := K5'
 have gx5 := Xd.trans g3 (Xd.trans (Xd.of g4) g5)
 simp
 refine (mslot_nil (a' : Int) (.slice none 0 0) H5).mono' ?_
 rintro _ H6 c6 _ ⟨rfl, g6⟩
 simp
 refine (look_nil (a' : Int) (k' : Int) H6).mono' ?_
 rintro _ H7 c7 _ ⟨rfl, g7⟩
 have gx7 := Xd.trans gx5 (Xd.of (g6.trans g7))
 have K7 := K5.keep (g6.trans g7)
 have f7 := fx gx7
 simp [aun, hbq, f7, apart, gvc, gva]
 refine (golden_ok D P S H7).mono ?_
 rintro _ h9 ⟨rfl, e⟩
 rw [e]; clear e h9
 have hsl : slot (D : Int) P S = slot (A.D : Int) A.P A.S := by rw [hD, hP, hS]
 rw [hsl]
 simp
 refine (arlock_ok A (V.wop q5) H7 c7 K7).mono' ?_
 rintro _ H8 c8 _ ⟨rfl, K8, g8⟩
 have gx8 := Xd.trans gx7 g8
 have n8 := gx8.n
 have fil2 : afill [.int .i64 0] [(0, 1, .int .i64 1)] = some [cI 1] := rfl
 have c9 : (H8.push (.cells [cI 1] .ex 1)).Closed := closed_push c8 (fun x hx => by simp at hx; subst hx; exact .int)
 have g9 : Gr H8 (H8.push (.cells [cI 1] .ex 1)) := ⟨Nat.le_succ _, c9, keep_push c8 _⟩
 have e9 := cellsOf_new H8 [cI 1] .ex 1
 have hm1 : 1 * 1 ≤ (A.D + A.P) * A.S := Nat.mul_le_mul (by omega) (by omega)
 have hl0 : ((V.wop q5).lk0 ((A.D + A.P) * A.S)).lock[secN A.D A.P A.S 0 0 0]! = true := by
  show (lockF V.lock 0 _)[_]! = true
  rw [lockF_get _ _ _ (secN_fit K2 (by omega) (by omega) (by omega)), if_pos (by unfold secN; omega)]
 have hrn : rdF A.D A.P (strF A ((V.wop q5).lk0 ((A.D + A.P) * A.S)) 0 0) = none := by
  show rdF A.D A.P (strF A V 0 0) = none
  rw [strF_blank fun i hi => two.b0 0 i (by omega) hi, rdF_blank (by omega)]
 simp [fil2]
 refine (repair_ok A _ 0 0 (by omega) (by omega) [1] (by simp) (.slice (some ⟨H8.n, 0, none⟩) 1 1) _ (fun H g => sl_oneI (m := .ex) (e := 1) (by
  have := g.m _ _ (m_of_cells e9) (by omega) (by omega) (by omega) (by omega)
  unfold Heap.cellsOf; rw [this]) rfl rfl) (K8.keep g9) true (by rw [if_pos rfl]; exact hl0) (fun _ => hrn)).mono' ?_
 rintro r HA cA _ RA
 unfold RepR at RA
 rw [hrn] at RA
 dsimp only at RA
 have hbF : borF A ((V.wop q5).lk0 ((A.D + A.P) * A.S)) 0 0 [1] = some (blkF A xB [] 0) := by
  unfold borF
  rw [List.findSome?_cons]
  have : bor1 A ((V.wop q5).lk0 ((A.D + A.P) * A.S)) 0 0 1 = some (blkF A xB [] 0) := by
   unfold bor1
   rw [if_neg (by
    have h1 : thereF A.S 1 ((0 : Nat) : Int) = true := thereF_in (a := 1) (k := 0) (by omega) (by omega)
    rw [h1]; simp)]
   exact rdF_full K2.rt B (by omega) (two.f1 0 (by omega))
  rw [this]
 rw [hbF] at RA
 unfold BorR at RA
 dsimp only at RA
 rw [if_pos rfl] at RA
 obtain ⟨rfl, _⟩ := RA
 simp
set_option maxHeartbeats 2000000 in
theorem mendErrors_a (d p s a k : Int) (h : Heap) (h1 : ¬ 0 ≤ a) : ACalls Tryz.prog 4 [gv d p s, .int .i64 a, .int .i64 k] h fun v _ => v = .bool true ∧ True := by
 refine acalls_of mix Tryz.func4 k4 n4 (by simp) fun hcl hb => ?_
 have hq : ∀ p, aeq .ptr (.pointer (some p)) (.pointer none) = some false := fun _ => rfl
 have hbq : ∀ a b : Bool, aeq .bool (.bool a) (.bool b) = some (decide (a = b)) := fun a b => by cases a <;> cases b <;> rfl
 have c1 : (h.push (.cells [.int .i64 d, .int .i64 p, .int .i64 s] .ex 1)).Closed := closed_push hcl (fun x hx => by simp at hx; rcases hx with rfl | rfl | rfl <;> exact .int)
 have f1 := cellsOf_new h [.int .i64 d, .int .i64 p, .int .i64 s] .ex 1
 have n1 : (h.push (.cells [.int .i64 d, .int .i64 p, .int .i64 s] .ex 1)).n = h.n + 1 := rfl
 simp only [c4, s_seq, s_ops]
 simp [gvm]
 generalize h.push (.cells [.int .i64 d, .int .i64 p, .int .i64 s] .ex 1) = H1 at *
 refine (mawake_ok H1).mono ?_
 rintro _ h9 ⟨rfl, e⟩
 rw [e]; clear e h9
 simp [aun, f1, apart, gvc, gva]
 refine (gRefRight_ok d p s H1).mono ?_
 rintro _ h9 ⟨rfl, e⟩
 rw [e]; clear e h9
 cases hr : right d p s
 ·simp [aun]
 obtain ⟨D, P, S, rfl, rfl, rfl⟩ := nats_of hr
 simp [aun, f1, apart, gvc, gva, bs_lit]
 refine (filled_ok D P S hr [] (room0 _ _ _) (by simp) H1).mono' ?_
 rintro _ H2 c2 _ ⟨A, V, rfl, K2, two, B, g2, ⟨a1, a2, a3, a4, a5⟩, hD, hP, hS⟩
 generalize (⟨1, 0, 0, (([] : List UInt8).length : Int), shaB []⟩ : Hd) = xB at *
 have f2 := cellsOf_keep g2.m f1
 obtain ⟨l1, l2, l3, l4, l5⟩ := K2.lo
 have n2 := g2.n
 have a2n : A.a < H2.n := cellsOf_lt c2 K2.ca
 obtain ⟨⟨hd1, hd8⟩, ⟨hp2, hp6⟩, hn1, hn8⟩ := right_prop.1 hr
 have fx : ∀ {Hb : Heap}, ArX A H2 Hb → Hb.cellsOf h.n = some ([.int .i64 D, .int .i64 P, .int .i64 S], .ex, 1) := fun g => by
  have hlt := cellsOf_lt c1 f1
  have := g.m _ _ (m_of_cells f2) (by omega) (by omega) (by omega) (by omega)
  unfold Heap.cellsOf; rw [this]
 have ht : thereF A.S a k = false := by
  unfold thereF
  exact decide_eq_false (by rw [hS]; omega)
 simp [hq, f2, apart, aun, h1]
 refine (look_out A V a k ht H2 K2).mono' ?_
 rintro _ H3 c3 _ ⟨rfl, g3⟩
 have fil1 : afill [.int .i64 0] [(0, 1, .int .i64 a)] = some [cI a] := rfl
 have c4 : (H3.push (.cells [cI a] .ex 1)).Closed := closed_push c3 (fun x hx => by simp at hx; subst hx; exact .int)
 have g4 : Gr H3 (H3.push (.cells [cI a] .ex 1)) := ⟨Nat.le_succ _, c4, keep_push c3 _⟩
 simp [fil1]
 refine (repair_out A V a k ht _ _ (K2.keep (g3.trans g4))).mono' ?_
 rintro r H5 c5 _ ⟨rfl, g5⟩
 have gx5 : ArX A H2 H5 := Xd.of (g3.trans (g4.trans g5))
 have K5 : ArK H5 A (V.wop V.ops) := K2.keep (g3.trans (g4.trans g5))
 simp
 refine (mslot_nil a (.slice none 0 0) H5).mono' ?_
 rintro _ H6 c6 _ ⟨rfl, g6⟩
 simp
 refine (look_nil a k H6).mono' ?_
 rintro _ H7 c7 _ ⟨rfl, g7⟩
 have gx7 := Xd.trans gx5 (Xd.of (g6.trans g7))
 have K7 := K5.keep (g6.trans g7)
 have f7 := fx gx7
 simp [aun, hbq, f7, apart, gvc, gva]
 refine (golden_ok D P S H7).mono ?_
 rintro _ h9 ⟨rfl, e⟩
 rw [e]; clear e h9
 have hsl : slot (D : Int) P S = slot (A.D : Int) A.P A.S := by rw [hD, hP, hS]
 rw [hsl]
 simp
 refine (arlock_ok A (V.wop V.ops) H7 c7 K7).mono' ?_
 rintro _ H8 c8 _ ⟨rfl, K8, g8⟩
 have gx8 := Xd.trans gx7 g8
 have n8 := gx8.n
 have fil2 : afill [.int .i64 0] [(0, 1, .int .i64 1)] = some [cI 1] := rfl
 have c9 : (H8.push (.cells [cI 1] .ex 1)).Closed := closed_push c8 (fun x hx => by simp at hx; subst hx; exact .int)
 have g9 : Gr H8 (H8.push (.cells [cI 1] .ex 1)) := ⟨Nat.le_succ _, c9, keep_push c8 _⟩
 have e9 := cellsOf_new H8 [cI 1] .ex 1
 have hm1 : 1 * 1 ≤ (A.D + A.P) * A.S := Nat.mul_le_mul (by omega) (by omega)
 have hl0 : ((V.wop V.ops).lk0 ((A.D + A.P) * A.S)).lock[secN A.D A.P A.S 0 0 0]! = true := by
  show (lockF V.lock 0 _)[_]! = true
  rw [lockF_get _ _ _ (secN_fit K2 (by omega) (by omega) (by omega)), if_pos (by unfold secN; omega)]
 have hrn : rdF A.D A.P (strF A ((V.wop V.ops).lk0 ((A.D + A.P) * A.S)) 0 0) = none := by
  show rdF A.D A.P (strF A V 0 0) = none
  rw [strF_blank fun i hi => two.b0 0 i (by omega) hi, rdF_blank (by omega)]
 simp [fil2]
 refine (repair_ok A _ 0 0 (by omega) (by omega) [1] (by simp) (.slice (some ⟨H8.n, 0, none⟩) 1 1) _ (fun H g => sl_oneI (m := .ex) (e := 1) (by
  have := g.m _ _ (m_of_cells e9) (by omega) (by omega) (by omega) (by omega)
  unfold Heap.cellsOf; rw [this]) rfl rfl) (K8.keep g9) true (by rw [if_pos rfl]; exact hl0) (fun _ => hrn)).mono' ?_
 rintro r HA cA _ RA
 unfold RepR at RA
 rw [hrn] at RA
 dsimp only at RA
 have hbF : borF A ((V.wop V.ops).lk0 ((A.D + A.P) * A.S)) 0 0 [1] = some (blkF A xB [] 0) := by
  unfold borF
  rw [List.findSome?_cons]
  have : bor1 A ((V.wop V.ops).lk0 ((A.D + A.P) * A.S)) 0 0 1 = some (blkF A xB [] 0) := by
   unfold bor1
   rw [if_neg (by
    have h1 : thereF A.S 1 ((0 : Nat) : Int) = true := thereF_in (a := 1) (k := 0) (by omega) (by omega)
    rw [h1]; simp)]
   exact rdF_full K2.rt B (by omega) (two.f1 0 (by omega))
  rw [this]
 rw [hbF] at RA
 unfold BorR at RA
 dsimp only at RA
 rw [if_pos rfl] at RA
 obtain ⟨rfl, _⟩ := RA
 simp
set_option maxHeartbeats 2000000 in
theorem mendErrors_b (d p s a k : Int) (h : Heap) (h1 : 0 ≤ a) (h2 : ¬ a < 3) : ACalls Tryz.prog 4 [gv d p s, .int .i64 a, .int .i64 k] h fun v _ => v = .bool true ∧ True := by
 refine acalls_of mix Tryz.func4 k4 n4 (by simp) fun hcl hb => ?_
 have hq : ∀ p, aeq .ptr (.pointer (some p)) (.pointer none) = some false := fun _ => rfl
 have hbq : ∀ a b : Bool, aeq .bool (.bool a) (.bool b) = some (decide (a = b)) := fun a b => by cases a <;> cases b <;> rfl
 have c1 : (h.push (.cells [.int .i64 d, .int .i64 p, .int .i64 s] .ex 1)).Closed := closed_push hcl (fun x hx => by simp at hx; rcases hx with rfl | rfl | rfl <;> exact .int)
 have f1 := cellsOf_new h [.int .i64 d, .int .i64 p, .int .i64 s] .ex 1
 have n1 : (h.push (.cells [.int .i64 d, .int .i64 p, .int .i64 s] .ex 1)).n = h.n + 1 := rfl
 simp only [c4, s_seq, s_ops]
 simp [gvm]
 generalize h.push (.cells [.int .i64 d, .int .i64 p, .int .i64 s] .ex 1) = H1 at *
 refine (mawake_ok H1).mono ?_
 rintro _ h9 ⟨rfl, e⟩
 rw [e]; clear e h9
 simp [aun, f1, apart, gvc, gva]
 refine (gRefRight_ok d p s H1).mono ?_
 rintro _ h9 ⟨rfl, e⟩
 rw [e]; clear e h9
 cases hr : right d p s
 ·simp [aun]
 obtain ⟨D, P, S, rfl, rfl, rfl⟩ := nats_of hr
 simp [aun, f1, apart, gvc, gva, bs_lit]
 refine (filled_ok D P S hr [] (room0 _ _ _) (by simp) H1).mono' ?_
 rintro _ H2 c2 _ ⟨A, V, rfl, K2, two, B, g2, ⟨a1, a2, a3, a4, a5⟩, hD, hP, hS⟩
 generalize (⟨1, 0, 0, (([] : List UInt8).length : Int), shaB []⟩ : Hd) = xB at *
 have f2 := cellsOf_keep g2.m f1
 obtain ⟨l1, l2, l3, l4, l5⟩ := K2.lo
 have n2 := g2.n
 have a2n : A.a < H2.n := cellsOf_lt c2 K2.ca
 obtain ⟨⟨hd1, hd8⟩, ⟨hp2, hp6⟩, hn1, hn8⟩ := right_prop.1 hr
 have fx : ∀ {Hb : Heap}, ArX A H2 Hb → Hb.cellsOf h.n = some ([.int .i64 D, .int .i64 P, .int .i64 S], .ex, 1) := fun g => by
  have hlt := cellsOf_lt c1 f1
  have := g.m _ _ (m_of_cells f2) (by omega) (by omega) (by omega) (by omega)
  unfold Heap.cellsOf; rw [this]
 have ht : thereF A.S a k = false := by
  unfold thereF
  exact decide_eq_false (by rw [hS]; omega)
 simp [hq, f2, apart, aun, h1, h2]
 refine (look_out A V a k ht H2 K2).mono' ?_
 rintro _ H3 c3 _ ⟨rfl, g3⟩
 have fil1 : afill [.int .i64 0] [(0, 1, .int .i64 a)] = some [cI a] := rfl
 have c4 : (H3.push (.cells [cI a] .ex 1)).Closed := closed_push c3 (fun x hx => by simp at hx; subst hx; exact .int)
 have g4 : Gr H3 (H3.push (.cells [cI a] .ex 1)) := ⟨Nat.le_succ _, c4, keep_push c3 _⟩
 simp [fil1]
 refine (repair_out A V a k ht _ _ (K2.keep (g3.trans g4))).mono' ?_
 rintro r H5 c5 _ ⟨rfl, g5⟩
 have gx5 : ArX A H2 H5 := Xd.of (g3.trans (g4.trans g5))
 have K5 : ArK H5 A (V.wop V.ops) := K2.keep (g3.trans (g4.trans g5))
 simp
 refine (mslot_nil a (.slice none 0 0) H5).mono' ?_
 rintro _ H6 c6 _ ⟨rfl, g6⟩
 simp
 refine (look_nil a k H6).mono' ?_
 rintro _ H7 c7 _ ⟨rfl, g7⟩
 have gx7 := Xd.trans gx5 (Xd.of (g6.trans g7))
 have K7 := K5.keep (g6.trans g7)
 have f7 := fx gx7
 simp [aun, hbq, f7, apart, gvc, gva]
 refine (golden_ok D P S H7).mono ?_
 rintro _ h9 ⟨rfl, e⟩
 rw [e]; clear e h9
 have hsl : slot (D : Int) P S = slot (A.D : Int) A.P A.S := by rw [hD, hP, hS]
 rw [hsl]
 simp
 refine (arlock_ok A (V.wop V.ops) H7 c7 K7).mono' ?_
 rintro _ H8 c8 _ ⟨rfl, K8, g8⟩
 have gx8 := Xd.trans gx7 g8
 have n8 := gx8.n
 have fil2 : afill [.int .i64 0] [(0, 1, .int .i64 1)] = some [cI 1] := rfl
 have c9 : (H8.push (.cells [cI 1] .ex 1)).Closed := closed_push c8 (fun x hx => by simp at hx; subst hx; exact .int)
 have g9 : Gr H8 (H8.push (.cells [cI 1] .ex 1)) := ⟨Nat.le_succ _, c9, keep_push c8 _⟩
 have e9 := cellsOf_new H8 [cI 1] .ex 1
 have hm1 : 1 * 1 ≤ (A.D + A.P) * A.S := Nat.mul_le_mul (by omega) (by omega)
 have hl0 : ((V.wop V.ops).lk0 ((A.D + A.P) * A.S)).lock[secN A.D A.P A.S 0 0 0]! = true := by
  show (lockF V.lock 0 _)[_]! = true
  rw [lockF_get _ _ _ (secN_fit K2 (by omega) (by omega) (by omega)), if_pos (by unfold secN; omega)]
 have hrn : rdF A.D A.P (strF A ((V.wop V.ops).lk0 ((A.D + A.P) * A.S)) 0 0) = none := by
  show rdF A.D A.P (strF A V 0 0) = none
  rw [strF_blank fun i hi => two.b0 0 i (by omega) hi, rdF_blank (by omega)]
 simp [fil2]
 refine (repair_ok A _ 0 0 (by omega) (by omega) [1] (by simp) (.slice (some ⟨H8.n, 0, none⟩) 1 1) _ (fun H g => sl_oneI (m := .ex) (e := 1) (by
  have := g.m _ _ (m_of_cells e9) (by omega) (by omega) (by omega) (by omega)
  unfold Heap.cellsOf; rw [this]) rfl rfl) (K8.keep g9) true (by rw [if_pos rfl]; exact hl0) (fun _ => hrn)).mono' ?_
 rintro r HA cA _ RA
 unfold RepR at RA
 rw [hrn] at RA
 dsimp only at RA
 have hbF : borF A ((V.wop V.ops).lk0 ((A.D + A.P) * A.S)) 0 0 [1] = some (blkF A xB [] 0) := by
  unfold borF
  rw [List.findSome?_cons]
  have : bor1 A ((V.wop V.ops).lk0 ((A.D + A.P) * A.S)) 0 0 1 = some (blkF A xB [] 0) := by
   unfold bor1
   rw [if_neg (by
    have h1 : thereF A.S 1 ((0 : Nat) : Int) = true := thereF_in (a := 1) (k := 0) (by omega) (by omega)
    rw [h1]; simp)]
   exact rdF_full K2.rt B (by omega) (two.f1 0 (by omega))
  rw [this]
 rw [hbF] at RA
 unfold BorR at RA
 dsimp only at RA
 rw [if_pos rfl] at RA
 obtain ⟨rfl, _⟩ := RA
 simp
set_option maxHeartbeats 2000000 in
theorem mendErrors_c (d p s a k : Int) (h : Heap) (h1 : 0 ≤ a) (h2 : a < 3) (h3 : ¬ 0 ≤ k) : ACalls Tryz.prog 4 [gv d p s, .int .i64 a, .int .i64 k] h fun v _ => v = .bool true ∧ True := by
 refine acalls_of mix Tryz.func4 k4 n4 (by simp) fun hcl hb => ?_
 have hq : ∀ p, aeq .ptr (.pointer (some p)) (.pointer none) = some false := fun _ => rfl
 have hbq : ∀ a b : Bool, aeq .bool (.bool a) (.bool b) = some (decide (a = b)) := fun a b => by cases a <;> cases b <;> rfl
 have c1 : (h.push (.cells [.int .i64 d, .int .i64 p, .int .i64 s] .ex 1)).Closed := closed_push hcl (fun x hx => by simp at hx; rcases hx with rfl | rfl | rfl <;> exact .int)
 have f1 := cellsOf_new h [.int .i64 d, .int .i64 p, .int .i64 s] .ex 1
 have n1 : (h.push (.cells [.int .i64 d, .int .i64 p, .int .i64 s] .ex 1)).n = h.n + 1 := rfl
 simp only [c4, s_seq, s_ops]
 simp [gvm]
 generalize h.push (.cells [.int .i64 d, .int .i64 p, .int .i64 s] .ex 1) = H1 at *
 refine (mawake_ok H1).mono ?_
 rintro _ h9 ⟨rfl, e⟩
 rw [e]; clear e h9
 simp [aun, f1, apart, gvc, gva]
 refine (gRefRight_ok d p s H1).mono ?_
 rintro _ h9 ⟨rfl, e⟩
 rw [e]; clear e h9
 cases hr : right d p s
 ·simp [aun]
 obtain ⟨D, P, S, rfl, rfl, rfl⟩ := nats_of hr
 simp [aun, f1, apart, gvc, gva, bs_lit]
 refine (filled_ok D P S hr [] (room0 _ _ _) (by simp) H1).mono' ?_
 rintro _ H2 c2 _ ⟨A, V, rfl, K2, two, B, g2, ⟨a1, a2, a3, a4, a5⟩, hD, hP, hS⟩
 generalize (⟨1, 0, 0, (([] : List UInt8).length : Int), shaB []⟩ : Hd) = xB at *
 have f2 := cellsOf_keep g2.m f1
 obtain ⟨l1, l2, l3, l4, l5⟩ := K2.lo
 have n2 := g2.n
 have a2n : A.a < H2.n := cellsOf_lt c2 K2.ca
 obtain ⟨⟨hd1, hd8⟩, ⟨hp2, hp6⟩, hn1, hn8⟩ := right_prop.1 hr
 have fx : ∀ {Hb : Heap}, ArX A H2 Hb → Hb.cellsOf h.n = some ([.int .i64 D, .int .i64 P, .int .i64 S], .ex, 1) := fun g => by
  have hlt := cellsOf_lt c1 f1
  have := g.m _ _ (m_of_cells f2) (by omega) (by omega) (by omega) (by omega)
  unfold Heap.cellsOf; rw [this]
 have ht : thereF A.S a k = false := by
  unfold thereF
  exact decide_eq_false (by rw [hS]; omega)
 simp [hq, f2, apart, aun, h1, h2, h3]
 refine (look_out A V a k ht H2 K2).mono' ?_
 rintro _ H3 c3 _ ⟨rfl, g3⟩
 have fil1 : afill [.int .i64 0] [(0, 1, .int .i64 a)] = some [cI a] := rfl
 have c4 : (H3.push (.cells [cI a] .ex 1)).Closed := closed_push c3 (fun x hx => by simp at hx; subst hx; exact .int)
 have g4 : Gr H3 (H3.push (.cells [cI a] .ex 1)) := ⟨Nat.le_succ _, c4, keep_push c3 _⟩
 simp [fil1]
 refine (repair_out A V a k ht _ _ (K2.keep (g3.trans g4))).mono' ?_
 rintro r H5 c5 _ ⟨rfl, g5⟩
 have gx5 : ArX A H2 H5 := Xd.of (g3.trans (g4.trans g5))
 have K5 : ArK H5 A (V.wop V.ops) := K2.keep (g3.trans (g4.trans g5))
 simp
 refine (mslot_nil a (.slice none 0 0) H5).mono' ?_
 rintro _ H6 c6 _ ⟨rfl, g6⟩
 simp
 refine (look_nil a k H6).mono' ?_
 rintro _ H7 c7 _ ⟨rfl, g7⟩
 have gx7 := Xd.trans gx5 (Xd.of (g6.trans g7))
 have K7 := K5.keep (g6.trans g7)
 have f7 := fx gx7
 simp [aun, hbq, f7, apart, gvc, gva]
 refine (golden_ok D P S H7).mono ?_
 rintro _ h9 ⟨rfl, e⟩
 rw [e]; clear e h9
 have hsl : slot (D : Int) P S = slot (A.D : Int) A.P A.S := by rw [hD, hP, hS]
 rw [hsl]
 simp
 refine (arlock_ok A (V.wop V.ops) H7 c7 K7).mono' ?_
 rintro _ H8 c8 _ ⟨rfl, K8, g8⟩
 have gx8 := Xd.trans gx7 g8
 have n8 := gx8.n
 have fil2 : afill [.int .i64 0] [(0, 1, .int .i64 1)] = some [cI 1] := rfl
 have c9 : (H8.push (.cells [cI 1] .ex 1)).Closed := closed_push c8 (fun x hx => by simp at hx; subst hx; exact .int)
 have g9 : Gr H8 (H8.push (.cells [cI 1] .ex 1)) := ⟨Nat.le_succ _, c9, keep_push c8 _⟩
 have e9 := cellsOf_new H8 [cI 1] .ex 1
 have hm1 : 1 * 1 ≤ (A.D + A.P) * A.S := Nat.mul_le_mul (by omega) (by omega)
 have hl0 : ((V.wop V.ops).lk0 ((A.D + A.P) * A.S)).lock[secN A.D A.P A.S 0 0 0]! = true := by
  show (lockF V.lock 0 _)[_]! = true
  rw [lockF_get _ _ _ (secN_fit K2 (by omega) (by omega) (by omega)), if_pos (by unfold secN; omega)]
 have hrn : rdF A.D A.P (strF A ((V.wop V.ops).lk0 ((A.D + A.P) * A.S)) 0 0) = none := by
  show rdF A.D A.P (strF A V 0 0) = none
  rw [strF_blank fun i hi => two.b0 0 i (by omega) hi, rdF_blank (by omega)]
 simp [fil2]
 refine (repair_ok A _ 0 0 (by omega) (by omega) [1] (by simp) (.slice (some ⟨H8.n, 0, none⟩) 1 1) _ (fun H g => sl_oneI (m := .ex) (e := 1) (by
  have := g.m _ _ (m_of_cells e9) (by omega) (by omega) (by omega) (by omega)
  unfold Heap.cellsOf; rw [this]) rfl rfl) (K8.keep g9) true (by rw [if_pos rfl]; exact hl0) (fun _ => hrn)).mono' ?_
 rintro r HA cA _ RA
 unfold RepR at RA
 rw [hrn] at RA
 dsimp only at RA
 have hbF : borF A ((V.wop V.ops).lk0 ((A.D + A.P) * A.S)) 0 0 [1] = some (blkF A xB [] 0) := by
  unfold borF
  rw [List.findSome?_cons]
  have : bor1 A ((V.wop V.ops).lk0 ((A.D + A.P) * A.S)) 0 0 1 = some (blkF A xB [] 0) := by
   unfold bor1
   rw [if_neg (by
    have h1 : thereF A.S 1 ((0 : Nat) : Int) = true := thereF_in (a := 1) (k := 0) (by omega) (by omega)
    rw [h1]; simp)]
   exact rdF_full K2.rt B (by omega) (two.f1 0 (by omega))
  rw [this]
 rw [hbF] at RA
 unfold BorR at RA
 dsimp only at RA
 rw [if_pos rfl] at RA
 obtain ⟨rfl, _⟩ := RA
 simp
set_option maxHeartbeats 2000000 in
theorem mendErrors_d (d p s a k : Int) (h : Heap) (h1 : 0 ≤ a) (h2 : a < 3) (h3 : 0 ≤ k) (h4 : ¬ k < s) : ACalls Tryz.prog 4 [gv d p s, .int .i64 a, .int .i64 k] h fun v _ => v = .bool true ∧ True := by
 refine acalls_of mix Tryz.func4 k4 n4 (by simp) fun hcl hb => ?_
 have hq : ∀ p, aeq .ptr (.pointer (some p)) (.pointer none) = some false := fun _ => rfl
 have hbq : ∀ a b : Bool, aeq .bool (.bool a) (.bool b) = some (decide (a = b)) := fun a b => by cases a <;> cases b <;> rfl
 have c1 : (h.push (.cells [.int .i64 d, .int .i64 p, .int .i64 s] .ex 1)).Closed := closed_push hcl (fun x hx => by simp at hx; rcases hx with rfl | rfl | rfl <;> exact .int)
 have f1 := cellsOf_new h [.int .i64 d, .int .i64 p, .int .i64 s] .ex 1
 have n1 : (h.push (.cells [.int .i64 d, .int .i64 p, .int .i64 s] .ex 1)).n = h.n + 1 := rfl
 simp only [c4, s_seq, s_ops]
 simp [gvm]
 generalize h.push (.cells [.int .i64 d, .int .i64 p, .int .i64 s] .ex 1) = H1 at *
 refine (mawake_ok H1).mono ?_
 rintro _ h9 ⟨rfl, e⟩
 rw [e]; clear e h9
 simp [aun, f1, apart, gvc, gva]
 refine (gRefRight_ok d p s H1).mono ?_
 rintro _ h9 ⟨rfl, e⟩
 rw [e]; clear e h9
 cases hr : right d p s
 ·simp [aun]
 obtain ⟨D, P, S, rfl, rfl, rfl⟩ := nats_of hr
 simp [aun, f1, apart, gvc, gva, bs_lit]
 refine (filled_ok D P S hr [] (room0 _ _ _) (by simp) H1).mono' ?_
 rintro _ H2 c2 _ ⟨A, V, rfl, K2, two, B, g2, ⟨a1, a2, a3, a4, a5⟩, hD, hP, hS⟩
 generalize (⟨1, 0, 0, (([] : List UInt8).length : Int), shaB []⟩ : Hd) = xB at *
 have f2 := cellsOf_keep g2.m f1
 obtain ⟨l1, l2, l3, l4, l5⟩ := K2.lo
 have n2 := g2.n
 have a2n : A.a < H2.n := cellsOf_lt c2 K2.ca
 obtain ⟨⟨hd1, hd8⟩, ⟨hp2, hp6⟩, hn1, hn8⟩ := right_prop.1 hr
 have fx : ∀ {Hb : Heap}, ArX A H2 Hb → Hb.cellsOf h.n = some ([.int .i64 D, .int .i64 P, .int .i64 S], .ex, 1) := fun g => by
  have hlt := cellsOf_lt c1 f1
  have := g.m _ _ (m_of_cells f2) (by omega) (by omega) (by omega) (by omega)
  unfold Heap.cellsOf; rw [this]
 have ht : thereF A.S a k = false := by
  unfold thereF
  exact decide_eq_false (by rw [hS]; omega)
 simp [hq, f2, apart, aun, h1, h2, h3, h4]
 refine (look_out A V a k ht H2 K2).mono' ?_
 rintro _ H3 c3 _ ⟨rfl, g3⟩
 have fil1 : afill [.int .i64 0] [(0, 1, .int .i64 a)] = some [cI a] := rfl
 have c4 : (H3.push (.cells [cI a] .ex 1)).Closed := closed_push c3 (fun x hx => by simp at hx; subst hx; exact .int)
 have g4 : Gr H3 (H3.push (.cells [cI a] .ex 1)) := ⟨Nat.le_succ _, c4, keep_push c3 _⟩
 simp [fil1]
 refine (repair_out A V a k ht _ _ (K2.keep (g3.trans g4))).mono' ?_
 rintro r H5 c5 _ ⟨rfl, g5⟩
 have gx5 : ArX A H2 H5 := Xd.of (g3.trans (g4.trans g5))
 have K5 : ArK H5 A (V.wop V.ops) := K2.keep (g3.trans (g4.trans g5))
 simp
 refine (mslot_nil a (.slice none 0 0) H5).mono' ?_
 rintro _ H6 c6 _ ⟨rfl, g6⟩
 simp
 refine (look_nil a k H6).mono' ?_
 rintro _ H7 c7 _ ⟨rfl, g7⟩
 have gx7 := Xd.trans gx5 (Xd.of (g6.trans g7))
 have K7 := K5.keep (g6.trans g7)
 have f7 := fx gx7
 simp [aun, hbq, f7, apart, gvc, gva]
 refine (golden_ok D P S H7).mono ?_
 rintro _ h9 ⟨rfl, e⟩
 rw [e]; clear e h9
 have hsl : slot (D : Int) P S = slot (A.D : Int) A.P A.S := by rw [hD, hP, hS]
 rw [hsl]
 simp
 refine (arlock_ok A (V.wop V.ops) H7 c7 K7).mono' ?_
 rintro _ H8 c8 _ ⟨rfl, K8, g8⟩
 have gx8 := Xd.trans gx7 g8
 have n8 := gx8.n
 have fil2 : afill [.int .i64 0] [(0, 1, .int .i64 1)] = some [cI 1] := rfl
 have c9 : (H8.push (.cells [cI 1] .ex 1)).Closed := closed_push c8 (fun x hx => by simp at hx; subst hx; exact .int)
 have g9 : Gr H8 (H8.push (.cells [cI 1] .ex 1)) := ⟨Nat.le_succ _, c9, keep_push c8 _⟩
 have e9 := cellsOf_new H8 [cI 1] .ex 1
 have hm1 : 1 * 1 ≤ (A.D + A.P) * A.S := Nat.mul_le_mul (by omega) (by omega)
 have hl0 : ((V.wop V.ops).lk0 ((A.D + A.P) * A.S)).lock[secN A.D A.P A.S 0 0 0]! = true := by
  show (lockF V.lock 0 _)[_]! = true
  rw [lockF_get _ _ _ (secN_fit K2 (by omega) (by omega) (by omega)), if_pos (by unfold secN; omega)]
 have hrn : rdF A.D A.P (strF A ((V.wop V.ops).lk0 ((A.D + A.P) * A.S)) 0 0) = none := by
  show rdF A.D A.P (strF A V 0 0) = none
  rw [strF_blank fun i hi => two.b0 0 i (by omega) hi, rdF_blank (by omega)]
 simp [fil2]
 refine (repair_ok A _ 0 0 (by omega) (by omega) [1] (by simp) (.slice (some ⟨H8.n, 0, none⟩) 1 1) _ (fun H g => sl_oneI (m := .ex) (e := 1) (by
  have := g.m _ _ (m_of_cells e9) (by omega) (by omega) (by omega) (by omega)
  unfold Heap.cellsOf; rw [this]) rfl rfl) (K8.keep g9) true (by rw [if_pos rfl]; exact hl0) (fun _ => hrn)).mono' ?_
 rintro r HA cA _ RA
 unfold RepR at RA
 rw [hrn] at RA
 dsimp only at RA
 have hbF : borF A ((V.wop V.ops).lk0 ((A.D + A.P) * A.S)) 0 0 [1] = some (blkF A xB [] 0) := by
  unfold borF
  rw [List.findSome?_cons]
  have : bor1 A ((V.wop V.ops).lk0 ((A.D + A.P) * A.S)) 0 0 1 = some (blkF A xB [] 0) := by
   unfold bor1
   rw [if_neg (by
    have h1 : thereF A.S 1 ((0 : Nat) : Int) = true := thereF_in (a := 1) (k := 0) (by omega) (by omega)
    rw [h1]; simp)]
   exact rdF_full K2.rt B (by omega) (two.f1 0 (by omega))
  rw [this]
 rw [hbF] at RA
 unfold BorR at RA
 dsimp only at RA
 rw [if_pos rfl] at RA
 obtain ⟨rfl, _⟩ := RA
 simp
theorem mendErrors_law (d p s a k : Int) (h : Heap) : ACalls Tryz.prog 4 [gv d p s, .int .i64 a, .int .i64 k] h fun v _ => v = .bool true ∧ True := by
 by_cases h1 : 0 ≤ a
 ·by_cases h2 : a < 3
  ·by_cases h3 : 0 ≤ k
   ·by_cases h4 : k < s
    ·exact mendErrors_t d p s a k h h1 h2 h3 h4
    ·exact mendErrors_d d p s a k h h1 h2 h3 h4
   ·exact mendErrors_c d p s a k h h1 h2 h3
  ·exact mendErrors_b d p s a k h h1 h2
 ·exact mendErrors_a d p s a k h h1

end Go.Proofs.YtdnmkenamgfjoaaGreat.arbm

