/-
 Contracts.
-/
import Derived.Test.YtdnmkenamgfjoaaGreatArbd
import Derived.IntWalk
import Derived.KernelRfl
set_option linter.unusedSimpArgs false
set_option linter.unusedVariables false
set_option linter.unusedSectionVars false
namespace Go.Proofs.YtdnmkenamgfjoaaGreat.arbe
open Go Go.Ab Go.Proofs Go.RowKit Go.Proofs.YtdnmkenamgfjoaaGreat.str Go.Proofs.YtdnmkenamgfjoaaGreat.vers Go.Proofs.YtdnmkenamgfjoaaGreat.lin1 Go.Proofs.YtdnmkenamgfjoaaGreat.sha Go.Proofs.YtdnmkenamgfjoaaGreat.arba Go.Proofs.YtdnmkenamgfjoaaGreat.arbb Go.Proofs.YtdnmkenamgfjoaaGreat.arbc Go.Proofs.YtdnmkenamgfjoaaGreat.arbd
variable [Inhabited TabBox]
variable [Nonempty GF]
variable [Nonempty GE]
set_option maxRecDepth 100000
def c30_0 : AC := .seq (.ops [oP 29 (.bin .lss (tP 28) (tP 27))]) (.seq (.cond (tP 29) .skip (.exit 0)) (.seq (.block 1 (.seq (.ops [mV 30 28,mV 10 30]) (.seq (.ops [mV 32 0,oP 33 (.nilck (tP 32)),oP 34 (.fAddr 2 (tP 33)),oP 35 (.load (some 3) (tP 34)),mV 36 1,mV 37 2,mV 38 10,oP 39 (.call 71 [tP 35,tP 36,tP 37,tP 38]),mV 31 39,oP 40 (.extr (tP 31) 0),oP 41 (.extr (tP 31) 1),mV 11 40,mV 12 41]) (.seq (.ops [mV 43 0,oP 44 (.nilck (tP 43)),oP 45 (.fAddr 1 (tP 44)),oP 46 (.load none (tP 45)),mV 47 11,oP 48 (.bin .mul (tP 47) (kI 64)),oP 49 (.call 72 [tP 46,tP 48,.const (.int .i64 64)]),mV 42 49,oP 50 (.extr (tP 42) 0),oP 51 (.extr (tP 42) 1),mV 13 50,mV 14 51]) (.seq (.seq (.ops [mV 52 14,oP 53 (.bin .neq (tP 52) (kI 0))]) (.cond (tP 53) (.seq (.ops [oP 54 (.build [.slice none 0 0,.slice none 0 0] []),mV 55 14,⟨none,none,.store 2 (tP 6) (tP 54)⟩,mV 7 55]) .ret) .skip)) (.ops [mV 56 9,mV 57 13,oP 58 (.buildS 1 [.string ⟨⟨[]⟩⟩] [(0,1,.tmp 57)]),oP 59 (.app 1 16 9 (tP 56) (tP 58)),mV 9 59])))))) (.ops [oP 60 (.bin .add (tP 28) (kI 1)),mV 28 60])))
def c30 : AC := .seq (.ops [oP 6 (.alloc [.slice none 0 0,.slice none 0 0]),oP 7 (.mv (kI 0))]) (.seq (.seq (.ops [mV 15 0,mV 16 1,mV 17 2,oP 18 (.call 61 [tP 15,tP 16,tP 17]),mV 8 18]) (.seq (.ops [mV 19 8,oP 20 (.bin .neq (tP 19) (kI 0))]) (.cond (tP 20) (.seq (.ops [oP 21 (.build [.slice none 0 0,.slice none 0 0] []),mV 22 8,⟨none,none,.store 2 (tP 6) (tP 21)⟩,mV 7 22]) .ret) .skip))) (.seq (.ops [oP 9 (.mv (.const (.slice none 0 0)))]) (.seq (.seq (.ops [mV 23 0,oP 24 (.nilck (tP 23)),oP 25 (.fAddr 2 (tP 24)),oP 26 (.load (some 3) (tP 25)),oP 27 (.call 70 [tP 26]),oP 28 (.mv (kI 0))]) (.block 0 (.loop c30_0))) (.seq (.ops [mV 61 0,oP 62 (.nilck (tP 61)),oP 63 (.fAddr 0 (tP 62)),oP 64 (.load none (tP 63)),mV 65 9,oP 66 (.call 73 [tP 64,tP 65]),oP 67 (.extr (tP 66) 0),oP 68 (.extr (tP 66) 1),⟨none,none,.store 2 (tP 6) (tP 67)⟩,mV 7 68]) .ret))))
theorem k30 : compR Tryz.prog Tryz.f30 = some (c30, [.c 6 (some 2), .t 7]) := by kernel_rfl
theorem n30 : Tryz.f30.ntmps = 69 := by kernel_rfl
def _root_.Go.Proofs.YtdnmkenamgfjoaaGreat.arbb.DevS.wop (V : DevS) (o : Int) : DevS := { V with ops := o }
theorem _root_.Go.Proofs.YtdnmkenamgfjoaaGreat.arbc.DevU.wop {V : DevS} (u : DevU V) (o : Int) : DevU (V.wop o) := ⟨u.up, u.lf, u.dl, u.wl, u.nl⟩
theorem _root_.Go.Proofs.YtdnmkenamgfjoaaGreat.arbb.DevK.keepM {H H' : Heap} {d x y z : Nat} {V : DevS} (k : DevK H d x y z V) (g : ∀ u ob, H.m u = some ob → u = d ∨ u = x ∨ u = y ∨ u = z → H'.m u = some ob) : DevK H' d x y z V := by
 obtain ⟨mx, ex, cx, hx⟩ := k.cx
 obtain ⟨my, ey, cy, hy⟩ := k.cy
 obtain ⟨mz, ez, cz, hz⟩ := k.cz
 have kc : ∀ u C, u = d ∨ u = x ∨ u = y ∨ u = z → H.cellsOf u = some C → H'.cellsOf u = some C := fun u C hu e => by
  obtain ⟨c, m, e'⟩ := C
  have := g u _ (m_of_cells e) hu
  unfold Heap.cellsOf
  rw [this]
 exact ⟨kc _ _ (.inl rfl) k.cd, ⟨mx, ex, kc _ _ (.inr (.inl rfl)) cx, hx⟩, ⟨my, ey, kc _ _ (.inr (.inr (.inl rfl))) cy, hy⟩, ⟨mz, ez, kc _ _ (.inr (.inr (.inr rfl))) cz, hz⟩, k.ne⟩
theorem _root_.Go.Proofs.YtdnmkenamgfjoaaGreat.arbc.Xd.step {d x y z : Nat} {h H : Heap} {D : DevS} (g : Xd d x y z h H) (k : DevK H d x y z D) (D' : DevS) : Xd d x y z h (H.set d (.cells (devC x y z D') .ex 1)) :=
 g.set (.inl rfl) (cellsOf_lt g.cl k.cd) (fun v hv => by
  have bx1 := cellsOf_lt g.cl (k.cx.choose_spec.choose_spec.1)
  have by1 := cellsOf_lt g.cl (k.cy.choose_spec.choose_spec.1)
  have bz1 := cellsOf_lt g.cl (k.cz.choose_spec.choose_spec.1)
  simp only [devC, List.mem_cons, List.not_mem_nil, or_false] at hv
  rcases hv with rfl | rfl | rfl | rfl | rfl | rfl | rfl | rfl
  ·exact .int
  ·exact .int
  ·exact .int
  ·exact .slice bx1
  ·exact .slice by1
  ·exact .slice bz1
  ·exact .bool
  ·exact .int)
def strF (A : ArB) (V : DevS) (a k : Nat) : List (List UInt8) := (List.range (A.D + A.P)).map fun i => secF V (secN A.D A.P A.S a k i)
theorem strF_len (A : ArB) (V : DevS) (a k : Nat) : (strF A V a k).length = A.D + A.P := by simp [strF]
def FdJ (h : Heap) (X l : List (List UInt8)) (va vw : Value) (H : Heap) : Prop := ∃ nm nn, LAt H 60 nm va X.length (ubs X.flatten) ∧ LAt H 1 nn vw (wrF X l l.length).length ((wrF X l l.length).map ei) ∧
 (∀ x, nm = some x → h.n ≤ x) ∧ (∀ x, nn = some x → h.n ≤ x) ∧ (∀ x, nm = some x → nn ≠ some x)
def ReadA (h : Heap) (l : List (List UInt8)) (o : Option (List (List UInt8))) (r : Value) (h' : Heap) : Prop := match o with
 | none => r = .tuple #[.agg #[.slice none 0 0, .slice none 0 0], .int .i64 8]
 | some X => ∃ va vw, r = .tuple #[.agg #[va, vw], .int .i64 0] ∧ FdJ h X l va vw h'
structure RaS where
 i : Nat
 v : Value
 o : Int
 H : Heap
theorem aread_ok (A : ArB) (V : DevS) (a k : Nat) (ha : a ≤ 2) (hk : k < A.S) (o : Option (List (List UInt8))) (h : Heap) (K : ArK h A V)
  (hR : ∀ (H : Heap) (v : Value), CodK H A.c A.k A.s A.f A.gw A.D A.P A.S → Sl sv H v (strF A V a k) → ACalls Tryz.prog 73 [.pointer (some ⟨A.c, 0, none⟩), v] H (ReadR H (strF A V a k) o)) :
  ACalls Tryz.prog 30 [.pointer (some ⟨A.a, 0, none⟩), .int .i64 (a : Int), .int .i64 (k : Int)] h fun r h' => ∃ q, ArK h' A (V.wop q) ∧ ReadA h (strF A V a k) o r h' ∧ ArX A h h' := by
 refine acalls_ofR mix Tryz.func30 k30 n30 (by simp) fun hcl hb => ?_
 have hba := cellsOf_lt hcl K.ca
 have hgv : (.agg #[.int .i64 (A.D : Int), .int .i64 (A.P : Int), .int .i64 (A.S : Int)] : Value) = gv A.D A.P A.S := rfl
 obtain ⟨⟨hd1, hd8⟩, ⟨hp2, hp6⟩, hn1, hn8⟩ := right_prop.1 K.rt
 have hw : wide A.D A.P A.S = ((A.D + A.P : Nat) : Int) := by unfold wide; rw [if_pos K.rt]; omega
 obtain ⟨l1, l2, l3, l4, l5⟩ := K.lo
 have hU := K.du
 have hsz := K.sz
 have hdl := hU.dl
 have hall : allS (A.D : Int) A.P A.S ≤ 354 := allS_le
 have c0 : (h.push (.cells [.slice none 0 0, .slice none 0 0] .ex 1)).Closed := closed_push hcl (fun x hx => by simp at hx; subst hx; exact .snil)
 have f0 := cellsOf_new h [.slice none 0 0, .slice none 0 0] .ex 1
 have g0 : Gr h (h.push (.cells [.slice none 0 0, .slice none 0 0] .ex 1)) := ⟨Nat.le_succ _, c0, keep_push hcl _⟩
 have n0 : (h.push (.cells [.slice none 0 0, .slice none 0 0] .ex 1)).n = h.n + 1 := rfl
 simp [c30]
 generalize h.push (.cells [.slice none 0 0, .slice none 0 0] .ex 1) = H0 at *
 have K0 := K.keep g0
 refine (there_ok A V a k H0 K0).mono ?_
 rintro _ h9 ⟨rfl, e⟩
 rw [e]; clear e h9
 rw [thereF_in ha hk]
 have ca0 := K0.ca
 simp [ca0, apart, acut_area, hgv]
 refine (wide_ok A.D A.P A.S H0).mono ?_
 rintro _ h9 ⟨rfl, e⟩
 rw [e]; clear e h9
 rw [hw]
 simp [-Int.natCast_add]
 obtain ⟨T, hT⟩ : ∃ T, strF A V a k = T := ⟨_, rfl⟩
 have hTl : T.length = A.D + A.P := by rw [← hT, strF_len]
 rw [hT] at hR ⊢
 refine awp_loop_of (α := RaS) (fun z => z.i ≤ A.D + A.P ∧ DevK z.H A.d A.x A.y A.z (V.wop z.o) ∧ (∃ nm, LAt z.H 1 nm z.v z.i ((T.take z.i).map sv) ∧ ∀ u, nm = some u → h.n + 1 ≤ u) ∧ z.H.cellsOf h.n = some ([.slice none 0 0, .slice none 0 0], .ex, 1) ∧ ArX A h z.H ∧ h.n + 1 ≤ z.H.n)
  (fun z => [(0, .pointer (some ⟨A.a, 0, none⟩)), (1, .int .i64 (a : Int)), (2, .int .i64 (k : Int)), (6, .pointer (some ⟨h.n, 0, none⟩)), (9, z.v), (27, .int .i64 ((A.D + A.P : Nat) : Int)), (28, .int .i64 (z.i : Int))]) (fun z => z.H) (fun z => A.D + A.P - z.i) ⟨0, .slice none 0 0, V.ops, H0⟩
  ⟨Nat.zero_le _, K0.dv, ⟨none, .inl ⟨rfl, rfl, rfl, rfl⟩, fun _ e => by cases e⟩, f0, Xd.of g0, by show h.n + 1 ≤ H0.n; omega⟩ ⟨g0.n, Nat.le_refl _, fun _ _ e => e, c0⟩ (by simp; exact ⟨.ptr (by show A.a < _; omega), .int, .int, .ptr (by show h.n < _; omega), .snil, .int, .int⟩) ?_
 rintro ⟨i, v, q, H⟩ ⟨hi, kd, ⟨nm, lT, xT⟩, fH, gH, nH⟩
 dsimp only at hi kd lT fH gH nH ⊢
 have KH := K.keepX gH kd (hU.wop q) rfl
 have caH := KH.ca
 by_cases hlt : i < A.D + A.P
 ·have hi' : (i : Int) < ((A.D + A.P : Nat) : Int) := by omega
  have w4 : IntKind.i64.wrap ((i : Int) + 1) = ((i + 1 : Nat) : Int) := by rw [IntWalk.i64_in _ (by omega)]; omega
  have hse := sectorR_in K.rt a k i ha hk hlt
  have hnl := (secN_lt K.rt ha hk hlt).1
  have hTi : T[i]'(by omega) = secF V (secN A.D A.P A.S a k i) := by subst hT; simp [strF]
  obtain ⟨n, hn⟩ : ∃ n, secN A.D A.P A.S a k i = n := ⟨_, rfl⟩
  rw [hn] at hse hnl hTi
  have w5 : IntKind.i64.wrap ((n : Int) * 64) = ((64 * n : Nat) : Int) := by rw [IntWalk.i64_in _ (by omega)]; omega
  simp [c30_0, hi', caH, apart, acut_area, hgv, -Int.natCast_add]
  refine (sector_ok A.D A.P A.S a k i H).mono ?_
  rintro _ h9 ⟨rfl, e⟩
  rw [e]; clear e h9
  rw [hse]
  simp [caH, apart, w5, -Int.natCast_mul, -Int.natCast_add]
  refine (fread_ok A.d A.x A.y A.z (V.wop q) (hU.wop q) (64 * n) 64 (by show 64 * n + 64 ≤ V.data.length; omega) H kd).mono ?_
  rintro _ h9 ⟨rfl, e⟩
  rw [e]; clear e h9
  have hrd : (V.wop q).read (64 * n) 64 = secF V n := rfl
  rw [hrd, ← hTi]
  have gS := gH.step kd (V.wop q).step
  have kS : DevK (H.set A.d (.cells (devC A.x A.y A.z (V.wop q).step) .ex 1)) A.d A.x A.y A.z (V.wop (IntKind.i64.wrap (q + 1))) := kd.set (D' := (V.wop q).step) rfl rfl rfl
  have lS := lT.up (H := H.set A.d (.cells (devC A.x A.y A.z (V.wop q).step) .ex 1)) fun u e ob e2 => by
   have := xT u e
   rw [set_m, if_neg (by omega)]; exact e2
  have fS : (H.set A.d (.cells (devC A.x A.y A.z (V.wop q).step) .ex 1)).cellsOf h.n = some ([.slice none 0 0, .slice none 0 0], .ex, 1) := by rw [cells_setJ _ (by omega)]; exact fH
  have nS : (H.set A.d (.cells (devC A.x A.y A.z (V.wop q).step) .ex 1)).n = H.n := rfl
  generalize H.set A.d (.cells (devC A.x A.y A.z (V.wop q).step) .ex 1) = HS at *
  obtain ⟨t, ht⟩ : ∃ t, T[i]'(by omega) = t := ⟨_, rfl⟩
  rw [ht]
  have hsv : (.string (bs t) : Value) = sv t := rfl
  obtain ⟨a3, e3, v3, H3, happ3, lA, fr3, n3, c3⟩ := lat_push1 (t := 9) (bytes := 16) gS.cl lS [sv t] 1 (by simp) (fun k x hx => by simp at hx; subst hx; exact .string) (by omega)
  have hfst3 : afirst (HS.push (.cells [sv t] .ex 1)) 1 1 (.slice (some ⟨HS.n, 0, none⟩) 1 1) = some [sv t] := by
   have := cellsOf_new HS [sv t] .ex 1
   simp [afirst, this, acut]
  have fili : afill [.string (bs [])] [(0, 1, .string (bs t))] = some [sv t] := rfl
  have hms : (T.take i).map sv ++ [sv t] = (T.take (i + 1)).map sv := by rw [List.take_succ_eq_append_getElem (by omega), List.map_append, ht]; rfl
  rw [hms] at lA
  have fN : H3.cellsOf h.n = some ([.slice none 0 0, .slice none 0 0], .ex, 1) := by
   have := fr3 h.n _ (m_of_cells fS) (fun q2 => by have := xT _ q2; omega)
   unfold Heap.cellsOf; rw [this]
  have kN := kS.keepM (H' := H3) fun u ob e hu => fr3 u ob e (fun q2 => by have := xT u q2; omega)
  have gN : ArX A h H3 := ⟨by have := gS.n; omega, c3, fun u ob e h1 h2 h3 h4 => fr3 u ob (gS.m u ob e h1 h2 h3 h4) (fun q2 => by have := xT u q2; have := (hcl u ob e).1; omega)⟩
  subst e3
  simp [bs_lit, fili, alen, hfst3, happ3, w4, -Int.natCast_add]
  exact ⟨⟨i + 1, v3, _, H3⟩, by show A.D + A.P - (i + 1) < A.D + A.P - i; omega, ⟨by show i + 1 ≤ A.D + A.P; omega, kN, ⟨some (HS.n + 1), by dsimp only; simpa using lA, fun u e => by have := Option.some.inj e; omega⟩, fN, gN, by show h.n + 1 ≤ H3.n; omega⟩, ⟨gN.n, Nat.le_refl _, fun _ _ e => e, c3⟩, .ptr (by show A.a < H3.n; omega), .int, .int, .ptr (by show h.n < H3.n; omega), ⟨rfl, lat_bel c3 lA⟩, .int, rfl, .int⟩
 ·have hie : i = A.D + A.P := by omega
  subst hie
  rw [List.take_of_length_le (by omega)] at lT
  have sT : Sl sv H v T := by
   rcases lT with ⟨_, q1, q2, _⟩ | ⟨x, md, e, _, q1, h3, h4, _⟩
   ·omega
   ·exact .inr ⟨x, 0, _, _, md, e, by rw [q1, hTl], h3, by omega, fun _ => by rw [List.length_map]; omega, fun i hi => by simp [hi]⟩
  simp [c30_0, caH, apart]
  refine (hR H v (KH.cod gH.cl) sT).mono' ?_
  intro r H2 c2 _ hr
  have hm2 : ∀ u v : Value, mcells (.agg #[u, v]) = some [u, v] := fun _ _ => rfl
  have hp2 : ∀ u v : Value, aput [.slice none 0 0, .slice none 0 0] 0 [u, v] = [u, v] := fun _ _ => rfl
  have hac2 : ∀ u v : Value, acut [u, v] 0 2 = some [u, v] := fun _ _ => rfl
  have goS : ∀ (u w : Value) (g2 : Gr H H2), VBelow H2.n u → VBelow H2.n w → ArX A h (H2.set h.n (.cells [u, w] .ex 1)) ∧ DevK (H2.set h.n (.cells [u, w] .ex 1)) A.d A.x A.y A.z (V.wop q) := fun u w g2 bu bw => by
   have hn2 := g2.n
   refine ⟨⟨by show h.n ≤ H2.n; omega, closed_set c2 (by omega) (fun x hx => by simp at hx; rcases hx with rfl | rfl <;> assumption), fun y ob e h1 h2 h3 h4 => ?_⟩, ?_⟩
   ·have := (hcl y ob e).1
    rw [set_m, if_neg (by omega)]
    exact g2.m y ob (gH.m y ob e h1 h2 h3 h4)
   ·refine kd.keepM fun y ob e hy => ?_
    rw [set_m, if_neg (by omega)]
    exact g2.m y ob e
  cases o with
  | none =>
   obtain ⟨rfl, g2⟩ := hr
   have f2 := cellsOf_keep g2.m fH
   obtain ⟨gF, kF⟩ := goS (.slice none 0 0) (.slice none 0 0) g2 .snil .snil
   have f5 := cells_setJ' H2 h.n [.slice none 0 0, .slice none 0 0] .ex 1
   simp [f2, hm2, hp2, f5, apart, hac2]
   exact ⟨⟨q, K.keepX gF kF (hU.wop q) rfl⟩, rfl, gF⟩
  | some X =>
   obtain ⟨va, vw, rfl, nx, nn, lx, ln, xx, xn, xd, g2⟩ := hr
   have f2 := cellsOf_keep g2.m fH
   have bx := lat_bel c2 lx
   have bn := lat_bel c2 ln
   obtain ⟨gF, kF⟩ := goS va vw g2 bx bn
   have f5 := cells_setJ' H2 h.n [va, vw] .ex 1
   simp [f2, hm2, hp2, f5, apart, hac2]
   have hHn := gH.n
   refine ⟨⟨q, K.keepX gF kF (hU.wop q) rfl⟩, ⟨va, vw, rfl, nx, nn, lx.up fun u e ob e2 => ?_, ln.up fun u e ob e2 => ?_, fun u e => by have := xx u e; omega, fun u e => by have := xn u e; omega, xd⟩, gF⟩
   ·have := xx u e
    rw [set_m, if_neg (by omega)]; exact e2
   ·have := xn u e
    rw [set_m, if_neg (by omega)]; exact e2

def padT (t : List UInt8) : List UInt8 := t.take 60 ++ List.replicate (60 - t.length) 0
def splitT : List UInt8 → Nat → List (List UInt8)
 | _, 0 => []
 | t, n + 1 => padT t :: splitT (t.drop 60) n
theorem padT_len (t : List UInt8) : (padT t).length = 60 := by unfold padT; simp; omega
theorem splitT_len : ∀ (t : List UInt8) (n : Nat), (splitT t n).length = n
 | _, 0 => rfl
 | t, n + 1 => by show (splitT _ n).length + 1 = _; rw [splitT_len]
theorem splitT_60 : ∀ (t : List UInt8) (n : Nat), ∀ x ∈ splitT t n, x.length = 60
 | _, 0, x, hx => by cases hx
 | t, n + 1, x, hx => by
  rcases List.mem_cons.1 hx with rfl | hx
  ·exact padT_len t
  ·exact splitT_60 _ n x hx
def spK (t : List UInt8) (n i : Nat) : List (List UInt8) := splitT t i ++ List.replicate (n - i) (List.replicate 60 0)

def c97_0 : AC := .seq (.ops [oP 14 (.bin .lss (tP 13) (tP 12))]) (.seq (.cond (tP 14) .skip (.exit 0)) (.seq (.block 1 (.seq (.ops [mV 15 13,mV 6 15]) (.ops [mV 16 0,mV 17 5,mV 18 6,oP 19 (.iAddrS 60 (tP 17) (tP 18)),oP 20 (.slA 60 1 (tP 19) none none none),mV 21 0,oP 22 (.copy 1 (tP 20) (tP 21)),oP 23 (.slS (tP 16) (some (tP 22)) none),mV 0 23]))) (.ops [oP 24 (.bin .add (tP 13) (kI 1)),mV 13 24])))
def c97 : AC := .seq (.ops [oP 4 (.mv (.const (.slice none 0 0)))]) (.seq (.ops [mV 7 1,oP 8 (.mx [tP 7,.const (.int .i64 0)]),oP 9 (.mn [tP 8,.const (.int .i64 64)]),oP 10 (.mkSl (zl .u8 60) 60 (tP 9) (tP 9)),mV 5 10]) (.seq (.seq (.ops [mV 11 5,oP 12 (.lenS false (tP 11)),oP 13 (.mv (kI 0))]) (.block 0 (.loop c97_0))) (.seq (.ops [mV 25 5,mV 4 25]) .ret)))
theorem k97 : compF Tryz.prog Tryz.f97 = some (c97, [4]) := by kernel_rfl
theorem n97 : Tryz.f97.ntmps = 26 := by kernel_rfl
theorem splitT_snoc : ∀ (t : List UInt8) (i : Nat), splitT t (i + 1) = splitT t i ++ [padT (t.drop (60 * i))]
 | t, 0 => by simp [splitT]
 | t, i + 1 => by
  show padT t :: splitT (t.drop 60) (i + 1) = padT t :: splitT (t.drop 60) i ++ _
  rw [splitT_snoc (t.drop 60) i, List.drop_drop]
  have : 60 + 60 * i = 60 * (i + 1) := by omega
  rw [this]; rfl
theorem spK_60 (t : List UInt8) (n i : Nat) : ∀ x ∈ spK t n i, x.length = 60 := fun x hx => by
 unfold spK at hx
 rcases List.mem_append.1 hx with h | h
 ·exact splitT_60 t i x h
 ·rw [List.eq_of_mem_replicate h]; rfl
theorem spK_len (t : List UInt8) (n i : Nat) (hi : i ≤ n) : (spK t n i).length = n := by
 unfold spK
 rw [List.length_append, splitT_len, List.length_replicate]; omega
theorem zeros_flat (m : Nat) : (List.replicate m (List.replicate 60 (0 : UInt8))).flatten = List.replicate (m * 60) 0 := by
 induction m with
 | zero => rfl
 | succ m ih =>
  rw [List.replicate_succ, List.flatten_cons, ih, List.replicate_append_replicate]
  congr 1
  omega
theorem spK_step (t : List UInt8) (n i : Nat) (hi : i < n) : putB (spK t n i).flatten (i * 60) ((t.drop (60 * i)).take 60) = (spK t n (i + 1)).flatten := by
 unfold spK
 rw [List.flatten_append, List.flatten_append, zeros_flat, zeros_flat, splitT_snoc, List.flatten_append]
 have hA : (splitT t i).flatten.length = i * 60 := by rw [flat60_len (splitT_60 t i), splitT_len]
 obtain ⟨Y, hY⟩ : ∃ Y, t.drop (60 * i) = Y := ⟨_, rfl⟩
 rw [hY]
 unfold putB padT
 rw [List.take_append_of_le_length (by omega), List.take_of_length_le (by omega), List.drop_append, List.drop_of_length_le (by rw [hA]; simp), hA]
 simp only [List.flatten_cons, List.flatten_nil, List.append_nil, List.nil_append, List.append_assoc]
 congr 2
 rw [List.drop_replicate, List.replicate_append_replicate]
 congr 1
 rw [List.length_take]
 omega
theorem zl_flat : ∀ m, (List.replicate m (zl .u8 60)).flatten = ubs (List.replicate m (List.replicate 60 0)).flatten
 | 0 => rfl
 | m + 1 => by rw [List.replicate_succ, List.replicate_succ, List.flatten_cons, List.flatten_cons, ubs_app, zl_flat m, ← ubs_rep]; rfl
theorem tsplit_ok (t : List UInt8) (ht : t.length ≤ 1000000) (n : Nat) (hn : n ≤ 64) (h : Heap) :
  ACalls Tryz.prog 97 [.string (bs t), .int .i64 (n : Int)] h fun r h' => r = .slice (some ⟨h.n, 0, none⟩) n n ∧ h' = h.push (.cells (ubs (splitT t n).flatten) .ex 1) := by
 refine acalls_of mix Tryz.func97 k97 n97 (by simp) fun hcl hb => ?_
 have m1 : amax2 (.int .i64 (n : Int)) (.int .i64 0) = some (.int .i64 (n : Int)) := by
  unfold amax2
  have : max (n : Int) 0 = n := by omega
  simp [this]
 have m2 : amin2 (.int .i64 (n : Int)) (.int .i64 64) = some (.int .i64 (n : Int)) := by
  unfold amin2
  have : min (n : Int) 64 = n := by omega
  simp [this]
 have hwm : (n : Int) * 61 ≤ 1099511627776 := by omega
 have hz : (List.replicate n (zl .u8 60)).flatten = ubs (spK t n 0).flatten := by
  unfold spK
  rw [show splitT t 0 = [] from rfl, List.nil_append, Nat.sub_zero]
  exact zl_flat n
 simp [c97, afold, m1, m2, hwm, hz]
 obtain ⟨HA, hHA⟩ : ∃ HA : Nat → Heap, HA = fun q => h.push (.cells (ubs (spK t n q).flatten) .ex 1) := ⟨_, rfl⟩
 have hHc : ∀ q, (HA q).Closed := fun q => by rw [hHA]; exact closed_push hcl ubs_bel
 have hHn : ∀ q, (HA q).n = h.n + 1 := fun q => by rw [hHA]; rfl
 have hHx : ∀ q, (HA q).cellsOf h.n = some (ubs (spK t n q).flatten, .ex, 1) := fun q => by rw [hHA]; exact cellsOf_new _ _ _ _
 have hH0 : h.push (.cells (ubs (spK t n 0).flatten) .ex 1) = HA 0 := by rw [hHA]
 rw [hH0]
 refine awp_loop_of (α := Nat) (fun q => q ≤ n) (fun q => [(0, .string (bs (t.drop (60 * q)))), (5, .slice (some ⟨h.n, 0, none⟩) n n), (11, .slice (some ⟨h.n, 0, none⟩) n n), (12, .int .i64 (n : Int)), (13, .int .i64 (q : Int))]) HA (fun q => n - q) 0
  (Nat.zero_le _) ⟨by rw [hHn]; omega, Nat.le_refl _, fun _ _ e => e, hHc 0⟩ (by simp [hHn]; exact ⟨.string, .slice (by show h.n < _; omega), .int, .int⟩) ?_
 intro q hq
 by_cases hlt : q < n
 ·have hi' : (q : Int) < (n : Int) := by omega
  have w4 : IntKind.i64.wrap ((q : Int) + 1) = ((q + 1 : Nat) : Int) := by rw [IntWalk.i64_in _ (by omega)]; omega
  have hab : abounds 60 60 none none none = some (0, 60, 60) := rfl
  have hsl := spK_len t n q hq
  have hfl := flat60_len (spK_60 t n q)
  have hst := spK_step t n q hlt
  have hdd : t.drop (60 * (q + 1)) = (t.drop (60 * q)).drop 60 := by rw [List.drop_drop]; congr 1
  obtain ⟨Y, hY⟩ : ∃ Y, t.drop (60 * q) = Y := ⟨_, rfl⟩
  rw [hY] at hst hdd ⊢
  have hYl : Y.length ≤ 1000000 := by rw [← hY, List.length_drop]; omega
  have hal : alen (.string (bs Y)) = some Y.length := by show some (bs Y).size = _; rw [bs_size]
  have hmt : Y.take (min Y.length 60) = Y.take 60 := by
   by_cases h6 : Y.length ≤ 60
   ·rw [Nat.min_eq_left h6, List.take_of_length_le (Nat.le_refl _), List.take_of_length_le h6]
   ·rw [Nat.min_eq_right (by omega)]
  have hfst : afirst (HA q) 1 (min Y.length 60) (.string (bs Y)) = some (ubs (Y.take 60)) := by
   show some ((((bs Y).data.toList).take (min Y.length 60)).map fun b : UInt8 => Value.int .u8 b.toNat) = _
   rw [bs_data, hmt]; rfl
  have hput : aput (ubs (spK t n q).flatten) (q * 60) (ubs (Y.take 60)) = ubs (spK t n (q + 1)).flatten := by rw [aput_ubs, hst]
  have hset : (HA q).set h.n (.cells (ubs (spK t n (q + 1)).flatten) .ex 1) = HA (q + 1) := by rw [hHA]; exact set_push _ _ _
  have hle : q * 60 + min 60 Y.length ≤ (spK t n q).flatten.length := by rw [hfl, hsl]; omega
  have hab2 : abounds Y.length Y.length (some (.int .i64 ((min Y.length 60 : Nat) : Int))) none none = some (min Y.length 60, Y.length, Y.length) := abounds_lo (by omega) (Nat.le_refl _)
  have hex : (bs Y).extract (min Y.length 60) Y.length = bs (Y.drop 60) := by
   rw [bs_extract, List.take_of_length_le (Nat.le_refl _)]
   congr 1
   by_cases h6 : Y.length ≤ 60
   ·rw [Nat.min_eq_left h6, List.drop_of_length_le (Nat.le_refl _), List.drop_of_length_le h6]
   ·rw [Nat.min_eq_right (by omega)]
  obtain ⟨mm, hmm⟩ : ∃ mm, min Y.length 60 = mm := ⟨_, rfl⟩
  rw [hmm] at hfst hab2 hex
  simp only [c97_0, s_seq, s_ops]
  simp [hi', aidx_of hlt, hHx, hab, hal, hmm, hfst, hput, hset, ubs_len, hle, bs_size, hab2, hex, w4, -Int.natCast_add, -List.length_flatten]
  exact ⟨q + 1, by omega, by omega, ⟨by rw [hHn]; omega, Nat.le_refl _, fun _ _ e => e, hHc _⟩, ⟨by rw [hdd], .string⟩, .slice (by show h.n < _; rw [hHn]; omega), .int, rfl, .int⟩
 ·have hqe : q = n := by omega
  subst hqe
  have hfin : spK t q q = splitT t q := by unfold spK; simp
  simp [c97_0]
  rw [hHA]
  dsimp only
  rw [hfin]

def c96 : AC := .seq (.ops [oP 1 (.box (tP 0)),oP 2 (.mv (.const (.string ⟨⟨[]⟩⟩))),oP 3 (.mv (kI 0))]) (.seq (.seq (.ops [oP 8 (.load (some 36) (tP 1)),oP 9 (.call 127 [tP 8]),oP 10 (.un .not (tP 9))]) (.cond (tP 10) (.seq (.ops [oP 2 (.mv (.const (.string ⟨⟨[]⟩⟩))),oP 3 (.mv (kI 1))]) .ret) .skip)) (.seq (.ops [oP 12 (.fAddr 0 (tP 1)),oP 13 (.slA 3 1 (tP 12) none none none),oP 14 (.call 128 [.const (.int .i64 2),tP 13]),mV 11 14,oP 15 (.extr (tP 11) 0),oP 16 (.extr (tP 11) 1),mV 4 15,mV 5 16]) (.seq (.ops [oP 18 (.fAddr 3 (tP 1)),oP 19 (.load none (tP 18)),oP 20 (.buildS 1 [.int .i64 0] [(0,1,.tmp 19)]),oP 21 (.call 128 [.const (.int .i64 4),tP 20]),mV 17 21,oP 22 (.extr (tP 17) 0),oP 23 (.extr (tP 17) 1),mV 6 22,mV 7 23]) (.seq (.ops [mV 24 4,oP 25 (.bin .add (.const (.string ⟨⟨[84,82,73,80]⟩⟩)) (tP 24)),mV 26 6,oP 27 (.bin .add (tP 25) (tP 26)),oP 28 (.fAddr 4 (tP 1)),oP 29 (.slA 32 1 (tP 28) none none none),oP 30 (.toStr (tP 29)),oP 31 (.bin .add (tP 27) (tP 30)),oP 32 (.bin .add (tP 31) (.const (.string ⟨⟨[0,0]⟩⟩))),mV 2 32,oP 3 (.mv (kI 0))]) .ret))))
theorem k96 : compF Tryz.prog Tryz.f96 = some (c96, [2, 3]) := by kernel_rfl
theorem n96 : Tryz.f96.ntmps = 33 := by kernel_rfl
theorem putStr (n : Nat) (l : List Int) (hf : ∀ k ∈ l, fits n k) : bytesOfInts (l.flatMap (beB n)) = bs (l.flatMap fun k => bN n k.toNat) := by
 unfold bytesOfInts bs
 congr 2
 rw [List.map_flatMap]
 induction l with
 | nil => rfl
 | cons k r ih =>
  rw [List.flatMap_cons, List.flatMap_cons, ih fun y hy => hf y (by simp [hy])]
  congr 1
  obtain ⟨x, rfl⟩ : ∃ x : Nat, k = x := ⟨k.toNat, by have := (hf k (by simp)).1; omega⟩
  rw [Int.toNat_natCast]
  exact beB_bN x n
theorem bytes_len (n : Nat) (l : List Int) : (l.flatMap fun k => bN n k.toNat).length = l.length * n := by
 induction l with
 | nil => simp
 | cons x r ih => rw [List.flatMap_cons, List.length_append, ih, bN_len, List.length_cons]; rw [Nat.add_mul]; omega

def putH (x : Hd) : List UInt8 := [84, 82, 73, 80] ++ (x.vs.flatMap fun k => bN 2 k.toNat) ++ bN 4 x.n.toNat ++ x.hs ++ [0, 0]
theorem sl_vs {H : Heap} {b : Nat} {x : Hd} {m : BMode} (hb : H.cellsOf b = some (hc x, m, 1)) : Sl cI H (.slice (some ⟨b, 0, none⟩) 3 3) x.vs :=
 .inr ⟨b, 0, 3, hc x, m, 1, rfl, hb, Nat.le_refl _, fun _ => by simp [hc, Hd.vs], fun i hi => by
  rw [Nat.zero_add, hcj x i hi]
  rw [List.getD, List.getElem?_eq_getElem hi]; rfl⟩
theorem sl_1 (H : Heap) (n : Int) : Sl cI (H.push (.cells [.int .i64 n] .ex 1)) (.slice (some ⟨H.n, 0, none⟩) 1 1) [n] :=
 .inr ⟨H.n, 0, 1, [.int .i64 n], .ex, 1, rfl, cellsOf_new _ _ _ _, Nat.le_refl _, fun _ => by simp, fun i hi => by
  have : i = 0 := by simpa using hi
  subst this; rfl⟩
theorem fits2 {k : Int} (h : rng k) : fits 2 k := by
 obtain ⟨m, rfl⟩ : ∃ m : Nat, k = m := ⟨k.toNat, by have := h.1; omega⟩
 exact fits_lt.2 (by have := h.2; show m < 65536; omega)
theorem fits4 {k : Int} (h : 0 ≤ k ∧ k ≤ 16777215) : fits 4 k := by
 obtain ⟨m, rfl⟩ : ∃ m : Nat, k = m := ⟨k.toNat, by have := h.1; omega⟩
 exact fits_lt.2 (by have := h.2; show m < 4294967296; omega)
theorem vs_rng {x : Hd} (h : rightH x) : ∀ k ∈ x.vs, rng k := fun k hk => by
 obtain ⟨i, hi, rfl⟩ := List.mem_iff_getElem.1 hk
 have := h.1 i hi
 rw [List.getD, List.getElem?_eq_getElem hi] at this
 exact this
theorem out2 {x : Hd} (h : rightH x) : putOut 2 x.vs = .tuple #[.string (bs (x.vs.flatMap fun k => bN 2 k.toNat)), .int .i64 0] := by
 have hf : ∀ k ∈ x.vs, fits 2 k := fun k hk => fits2 (vs_rng h k hk)
 unfold putOut
 rw [if_neg (by omega)]
 have e : (2 : Int).toNat = 2 := rfl
 rw [e, if_pos hf, putStr 2 _ hf]
theorem out4 {x : Hd} (h : rightH x) : putOut 4 [x.n] = .tuple #[.string (bs (bN 4 x.n.toNat)), .int .i64 0] := by
 have hf : ∀ k ∈ [x.n], fits 4 k := fun k hk => by simp at hk; rw [hk]; exact fits4 h.2
 unfold putOut
 rw [if_neg (by omega)]
 have e : (4 : Int).toNat = 4 := rfl
 rw [e, if_pos hf, putStr 4 _ hf]
 simp
def putV (x : Hd) : Value := if rightH x then .tuple #[.string (bs (putH x)), .int .i64 0] else .tuple #[.string (bs []), .int .i64 1]
theorem putV_below {n : Nat} {x : Hd} : VBelow n (putV x) := by unfold putV; split <;> exact vb_tuple2 .string .int
theorem hput_ok (x : Hd) (hx : x.hs.length = 32) (h : Heap) : ACalls Tryz.prog 96 [hv x] h fun v h' => v = putV x ∧ h' = h := by
 refine ACalls.same putV_below (acalls_of mix Tryz.func96 k96 n96 (by simp) fun hcl hb => ?_)
 have hc1 : (h.push (.cells (hc x) .ex 1)).Closed := closed_push hcl hc_bel
 have hext := (Heap.Ext.refl h).push hcl (.cells (hc x) .ex 1)
 have hlen : (hc x).length = 36 := by simp [hc, ubs_len, hx]
 have c36 := acut_full hlen
 have c137 := hc_cut32 x hx
 have h32 : (ubs x.hs).length = 32 := by rw [ubs_len, hx]
 simp [c96, m_hv, cellsOf_new, cellsOf_at, apart, c36]
 have hag : Value.agg (hc x).toArray = hv x := rfl
 rw [hag]
 refine (hright_ok x _).mono ?_
 rintro _ h9 ⟨rfl, e⟩
 rw [e]
 clear e h9
 by_cases hR : rightH x
 case neg =>
  simp [aun, hR, putV]
  exact ⟨rfl, hext⟩
 have ab3 : abounds 3 3 none none none = some (0, 3, 3) := rfl
 have ab32 : abounds 32 32 none none none = some (0, 32, 32) := rfl
 simp [aun, hR, ab3]
 refine (put_ok 2 x.vs _ _ (sl_vs (cellsOf_new _ _ _ _)) (by simp [Hd.vs])).mono ?_
 rintro _ h9 ⟨rfl, e⟩
 rw [e]
 clear e h9
 rw [out2 hR]
 have fil : afill [.int .i64 0] [(0, 1, .int .i64 x.n)] = some [.int .i64 x.n] := rfl
 have g3 := hc3 x
 simp [cellsOf_new, apart, g3, fil]
 refine (put_ok 4 [x.n] _ _ (sl_1 _ _) (by simp)).mono ?_
 rintro _ h9 ⟨rfl, e⟩
 rw [e]
 clear e h9
 rw [out4 hR]
 have hf : ∀ o, afirst ((h.push (.cells (hc x) .ex 1)).push o) 1 32 (.slice (some ⟨h.n, 4, none⟩) 32 32) = some (ubs x.hs) := fun o => by
  simp [afirst, cellsOf_ne, cellsOf_new, c137]
 have l1 : (x.vs.flatMap fun k => bN 2 k.toNat).length = 6 := by rw [bytes_len]; rfl
 have l2 : (bN 4 x.n.toNat).length = 4 := bN_len _ _
 have hP : putV x = .tuple #[.string (bs (putH x)), .int .i64 0] := if_pos hR
 have hPd : putH x = [84, 82, 73, 80] ++ (x.vs.flatMap fun k => bN 2 k.toNat) ++ bN 4 x.n.toNat ++ x.hs ++ [0, 0] := rfl
 rw [hP, hPd]
 generalize (x.vs.flatMap fun k => bN 2 k.toNat) = L1 at *
 generalize bN 4 x.n.toNat = L2 at *
 simp [bs_lit, bs_append, bs_size, l1, l2, ab32, hf, abytes_ubs, bs_mk, hx]
 exact hext.push hcl _
theorem hcb (x : Hd) (j : Nat) (hj : j < 32) (hx : x.hs.length = 32) : (hc x)[4 + j]? = some (.int .u8 ((x.hs.getD j 0).toNat : Int)) := by
 unfold hc
 rw [List.getElem?_append_right (by simp), show 4 + j - ([Value.int .i64 x.a, .int .i64 x.b, .int .i64 x.c, .int .i64 x.n] : List Value).length = j by simp]
 unfold ubs
 rw [List.getElem?_map, List.getD, List.getElem?_eq_getElem (by omega)]
 rfl
def parseH (s : List UInt8) : Hd := ⟨(tkN ((s.drop 4).take 2) : Int), (tkN ((s.drop 6).take 2) : Int), (tkN ((s.drop 8).take 2) : Int), (tkN ((s.drop 10).take 4) : Int), (s.drop 14).take 32⟩
def getH (s : List UInt8) : Hd × Int := if s.length < 48 then (zH, 13) else if rightH (parseH s) ∧ putH (parseH s) = s.take 48 then (parseH s, 0) else (zH, 6)
def c12 : AC := .seq (.ops [oP 1 (.box (tP 0)),oP 2 (.mv (kI 0))]) (.seq (.seq (.ops [oP 3 (.load (some 3) (tP 1)),oP 4 (.call 47 [tP 3]),oP 5 (.un .not (tP 4))]) (.cond (tP 5) (.seq (.ops [oP 2 (.mv (kI 0))]) .ret) .skip)) (.seq (.ops [oP 6 (.fAddr 0 (tP 1)),oP 7 (.load none (tP 6)),oP 8 (.bin .mul (kI 60) (tP 7)),oP 9 (.fAddr 2 (tP 1)),oP 10 (.load none (tP 9)),oP 11 (.bin .mul (tP 8) (tP 10)),oP 12 (.bin .sub (tP 11) (kI 48)),oP 13 (.mx [tP 12,.const (.int .i64 0)]),mV 2 13]) .ret))
theorem k12 : compF Tryz.prog Tryz.f12 = some (c12, [2]) := by kernel_rfl
theorem n12 : Tryz.f12.ntmps = 14 := by kernel_rfl
def c22 : AC := .seq (.ops [oP 1 (.box (tP 0)),oP 2 (.mv (kI 0)),oP 3 (.mv (kI 0))]) (.seq (.ops [oP 4 (.load (some 3) (tP 1)),oP 5 (.call 35 [tP 4]),oP 2 (.mv (kI 0)),mV 3 5]) .ret)
theorem k22 : compF Tryz.prog Tryz.f22 = some (c22, [2, 3]) := by kernel_rfl
theorem n22 : Tryz.f22.ntmps = 6 := by kernel_rfl
def c62 : AC := .seq (.ops [oP 3 (.box (tP 0)),oP 4 (.box (tP 1)),oP 6 (.mv (.const (.slice none 0 0))),oP 7 (.mv (kI 0))]) (.seq (.ops [oP 11 (.load (some 36) (tP 4)),oP 12 (.call 96 [tP 11]),mV 10 12,oP 13 (.extr (tP 10) 0),oP 14 (.extr (tP 10) 1),mV 8 13,mV 9 14]) (.seq (.block 0 (.seq (.ops [oP 16 (.load (some 3) (tP 3)),oP 17 (.call 47 [tP 16]),oP 18 (.un .not (tP 17)),mV 19 18,⟨some 20,some (19,false),.mv (tP 9)⟩,⟨some 21,some (19,false),.bin .neq (tP 20) (kI 0)⟩,oP 22 (.pick (tP 19) (.const (.bool true)) (tP 21)),mV 23 22,⟨some 24,some (23,false),.fAddr 3 (tP 4)⟩,⟨some 25,some (23,false),.load none (tP 24)⟩,⟨some 26,some (23,false),.mv (tP 2)⟩,⟨some 27,some (23,false),.lenS true (tP 26)⟩,⟨some 28,some (23,false),.bin .neq (tP 25) (tP 27)⟩,oP 29 (.pick (tP 23) (.const (.bool true)) (tP 28)),mV 15 29]) (.cond (tP 15) (.seq (.ops [oP 6 (.mv (.const (.slice none 0 0))),oP 7 (.mv (kI 1))]) .ret) (.seq (.ops [mV 31 2,oP 32 (.lenS true (tP 31)),oP 33 (.load (some 3) (tP 3)),oP 34 (.call 12 [tP 33]),oP 35 (.bin .gtr (tP 32) (tP 34)),mV 30 35]) (.cond (tP 30) (.seq (.ops [oP 6 (.mv (.const (.slice none 0 0))),oP 7 (.mv (kI 12))]) .ret) .skip))))) (.seq (.ops [mV 36 8,mV 37 2,oP 38 (.bin .add (tP 36) (tP 37)),oP 39 (.fAddr 0 (tP 3)),oP 40 (.load none (tP 39)),oP 41 (.fAddr 2 (tP 3)),oP 42 (.load none (tP 41)),oP 43 (.bin .mul (tP 40) (tP 42)),oP 44 (.call 97 [tP 38,tP 43]),mV 6 44,oP 7 (.mv (kI 0))]) .ret)))
theorem k62 : compF Tryz.prog Tryz.f62 = some (c62, [6, 7]) := by kernel_rfl
theorem n62 : Tryz.f62.ntmps = 45 := by kernel_rfl
def roomF (d p s : Int) : Int := if right d p s then max (60 * (d * s) - 48) 0 else 0
theorem gvm (d p s : Int) : mcells (gv d p s) = some [.int .i64 d, .int .i64 p, .int .i64 s] := rfl
theorem gva (d p s : Int) : (.agg #[.int .i64 d, .int .i64 p, .int .i64 s] : Value) = gv d p s := rfl
theorem gvc (a b c : Value) : acut [a, b, c] 0 3 = some [a, b, c] := rfl
theorem groom_ok (d p s : Int) (h : Heap) : ACalls Tryz.prog 12 [gv d p s] h fun v h' => v = .int .i64 (roomF d p s) ∧ h' = h := by
 refine ACalls.same .int (acalls_of mix Tryz.func12 k12 n12 (by simp) fun hcl hb => ?_)
 have f1 := cellsOf_new h [.int .i64 d, .int .i64 p, .int .i64 s] .ex 1
 have e1 := (Heap.Ext.refl h).push hcl (.cells [.int .i64 d, .int .i64 p, .int .i64 s] .ex 1)
 simp [c12, gvm, f1, apart, gvc, gva]
 generalize h.push (.cells [.int .i64 d, .int .i64 p, .int .i64 s] .ex 1) = H1 at *
 refine (rightG_ok d p s H1).mono ?_
 rintro _ h9 ⟨rfl, e⟩
 rw [e]; clear e h9
 unfold roomF
 by_cases hr : right d p s = true
 ·obtain ⟨⟨hd1, hd8⟩, ⟨hp2, hp6⟩, hs1, hs8⟩ := right_prop.1 hr
  have hb1 := mulb (a := d) (b := s) (m := 8) (n := 8) (by omega) hd8 (by omega) hs8
  have w1 : IntKind.i64.wrap (60 * d) = 60 * d := IntWalk.i64_in _ (by omega)
  have w2 : IntKind.i64.wrap (60 * d * s) = 60 * (d * s) := by rw [Int.mul_assoc, IntWalk.i64_in _ (by omega)]
  have w3 : IntKind.i64.wrap (60 * (d * s) - 48) = 60 * (d * s) - 48 := IntWalk.i64_in _ (by omega)
  have mx : amax2 (.int .i64 (60 * (d * s) - 48)) (.int .i64 0) = some (.int .i64 (max (60 * (d * s) - 48) 0)) := by unfold amax2; simp
  simp [hr, aun, f1, apart, w1, w2, w3, afold, mx]
  exact e1
 ·simp [hr, aun]
  exact e1
theorem golden_ok (d p s : Int) (h : Heap) : ACalls Tryz.prog 22 [gv d p s] h fun v h' => v = .tuple #[.int .i64 0, .int .i64 (slot d p s)] ∧ h' = h := by
 refine ACalls.same (vb_tuple2 .int .int) (acalls_of mix Tryz.func22 k22 n22 (by simp) fun hcl hb => ?_)
 have f1 := cellsOf_new h [.int .i64 d, .int .i64 p, .int .i64 s] .ex 1
 have e1 := (Heap.Ext.refl h).push hcl (.cells [.int .i64 d, .int .i64 p, .int .i64 s] .ex 1)
 simp [c22, gvm, f1, apart, gvc, gva]
 generalize h.push (.cells [.int .i64 d, .int .i64 p, .int .i64 s] .ex 1) = H1 at *
 refine (slot_ok d p s H1).mono ?_
 rintro _ h9 ⟨rfl, e⟩
 rw [e]; clear e h9
 simp
 exact e1
theorem putH_len {x : Hd} (hx : x.hs.length = 32) : (putH x).length = 48 := by
 unfold putH
 rw [List.length_append, List.length_append, List.length_append, List.length_append, bytes_len, bN_len, hx]
 rfl
def txE (d p s : Int) (x : Hd) (n : Nat) : Int := if right d p s = true ∧ rightH x ∧ x.n = n then (if roomF d p s < n then 12 else 0) else 1
def txL (d p s : Int) (x : Hd) (img : List UInt8) : List (List UInt8) := if txE d p s x img.length = 0 then splitT (putH x ++ img) (d * s).toNat else []
def NewK (h H : Heap) (v : Value) (L : List (List UInt8)) : Prop := (∀ x ∈ L, x.length = 60) ∧ (∃ nm, LAt H 60 nm v L.length (ubs L.flatten) ∧ ∀ x, nm = some x → h.n ≤ x) ∧ Gr h H
theorem atext_ok (d p s : Int) (x : Hd) (hx : x.hs.length = 32) (img : List UInt8) (hi : img.length ≤ 100000) (h : Heap) :
  ACalls Tryz.prog 62 [gv d p s, hv x, .string (bs img)] h fun r h' => ∃ v, r = .tuple #[v, .int .i64 (txE d p s x img.length)] ∧ NewK h h' v (txL d p s x img) := by
 refine acalls_of mix Tryz.func62 k62 n62 (by simp) fun hcl hb => ?_
 have hlen : (hc x).length = 36 := by simp [hc, ubs_len, hx]
 have c1 : (h.push (.cells [.int .i64 d, .int .i64 p, .int .i64 s] .ex 1)).Closed := closed_push hcl (fun x hx => by simp at hx; rcases hx with rfl | rfl | rfl <;> exact .int)
 have g1 : Gr h (h.push (.cells [.int .i64 d, .int .i64 p, .int .i64 s] .ex 1)) := ⟨Nat.le_succ _, c1, keep_push hcl _⟩
 have f1 := cellsOf_new h [.int .i64 d, .int .i64 p, .int .i64 s] .ex 1
 have n1 : (h.push (.cells [.int .i64 d, .int .i64 p, .int .i64 s] .ex 1)).n = h.n + 1 := rfl
 simp [c62, gvm, m_hv]
 generalize h.push (.cells [.int .i64 d, .int .i64 p, .int .i64 s] .ex 1) = H1 at *
 have c2 : (H1.push (.cells (hc x) .ex 1)).Closed := closed_push c1 hc_bel
 have g2 : Gr h (H1.push (.cells (hc x) .ex 1)) := g1.trans ⟨Nat.le_succ _, c2, keep_push c1 _⟩
 have f2 := cellsOf_keep (keep_push c1 (.cells (hc x) .ex 1)) f1
 have k2 := cellsOf_new H1 (hc x) .ex 1
 rw [n1] at k2
 generalize H1.push (.cells (hc x) .ex 1) = H2 at *
 have c36 := acut_full hlen
 have hva : (.agg (hc x).toArray : Value) = hv x := rfl
 have h3 := hc3 x
 simp [k2, apart, c36, hva]
 refine (hput_ok x hx H2).mono ?_
 rintro _ h9 ⟨rfl, e⟩
 rw [e]; clear e h9
 have fin : ∀ e : Int, e ≠ 0 → txE d p s x img.length = e → NewK h H2 (.slice none 0 0) (txL d p s x img) := fun e he q => by
  have : txL d p s x img = [] := by unfold txL; rw [if_neg (by rw [q]; exact he)]
  rw [this]
  exact ⟨(fun _ hx => by cases hx), ⟨none, .inl ⟨rfl, rfl, rfl, rfl⟩, fun _ e => by cases e⟩, g2⟩
 unfold putV
 by_cases hR : rightH x
 ·simp only [hR, if_true]
  simp [f2, apart, gvc, gva]
  refine (rightG_ok d p s H2).mono ?_
  rintro _ h9 ⟨rfl, e⟩
  rw [e]; clear e h9
  by_cases hr : right d p s = true
  ·by_cases hn : x.n = img.length
   ·simp [hr, aun, k2, apart, h3, hn, bs_size, f2, gvc, gva]
    refine (groom_ok d p s H2).mono ?_
    rintro _ h9 ⟨rfl, e⟩
    rw [e]; clear e h9
    by_cases hlt : roomF d p s < (img.length : Int)
    ·have hE : txE d p s x img.length = 12 := by unfold txE; rw [if_pos ⟨hr, hR, hn⟩, if_pos hlt]
     rw [hE]
     simp [hlt]
     exact fin 12 (by decide) hE
    ·have hE : txE d p s x img.length = 0 := by unfold txE; rw [if_pos ⟨hr, hR, hn⟩, if_neg hlt]
     have hT : txL d p s x img = splitT (putH x ++ img) (d * s).toNat := by unfold txL; rw [if_pos hE]
     rw [hE, hT]
     obtain ⟨⟨hd1, hd8⟩, ⟨hp2, hp6⟩, hs1, hs8⟩ := right_prop.1 hr
     have hb1 := mulb (a := d) (b := s) (m := 8) (n := 8) (by omega) hd8 (by omega) hs8
     have w1 : IntKind.i64.wrap (d * s) = (((d * s).toNat : Nat) : Int) := by rw [IntWalk.i64_in _ (by omega)]; omega
     have hpl : (putH x).length = 48 := putH_len hx
     have hz : (bs (putH x)).size + (bs img).size ≤ 9223372036854775807 := by rw [bs_size, bs_size]; omega
     have hz2 : (putH x).length + img.length ≤ 9223372036854775807 := by omega
     obtain ⟨N, hN⟩ : ∃ N, (d * s).toNat = N := ⟨_, rfl⟩
     have hN64 : N ≤ 64 := by omega
     rw [hN] at w1 ⊢
     simp [hlt, hz, hz2, bs_size, bs_append, f2, apart, w1]
     refine (tsplit_ok (putH x ++ img) (by rw [List.length_append]; omega) N hN64 H2).mono ?_
     rintro _ h9 ⟨rfl, e⟩
     rw [e]; clear e h9
     simp
     have h60 := splitT_60 (putH x ++ img) N
     have c3 : (H2.push (.cells (ubs (splitT (putH x ++ img) N).flatten) .ex 1)).Closed := closed_push g2.cl ubs_bel
     refine ⟨h60, ⟨some H2.n, .inr ⟨H2.n, .ex, 1, rfl, by rw [splitT_len], cellsOf_new _ _ _ _, by rw [ubs_len, flat60_len h60], by simp, fun q => by simp [BMode.isLoose] at q⟩, fun x e => by have := Option.some.inj e; have := g2.n; omega⟩, g2.trans ⟨Nat.le_succ _, c3, keep_push g2.cl _⟩⟩
   ·have hE : txE d p s x img.length = 1 := by unfold txE; rw [if_neg (fun q => hn q.2.2)]
    rw [hE]
    simp [hr, aun, k2, apart, h3, hn, bs_size]
    exact fin 1 (by decide) hE
  ·have hE : txE d p s x img.length = 1 := by unfold txE; rw [if_neg (fun q => hr q.1)]
   rw [hE]
   simp [hr, aun]
   exact fin 1 (by decide) hE
 ·have hE : txE d p s x img.length = 1 := by unfold txE; rw [if_neg (fun q => hR q.2.1)]
  rw [hE]
  simp only [hR, if_false]
  simp [f2, apart, gvc, gva]
  refine (rightG_ok d p s H2).mono ?_
  rintro _ h9 ⟨rfl, e⟩
  rw [e]; clear e h9
  cases hr : right d p s
  ·simp [aun]
   exact fin 1 (by decide) hE
  ·simp [aun]
   exact fin 1 (by decide) hE

def c26_0 : AC := .seq (.ops [oP 39 (.bin .lss (tP 38) (tP 37))]) (.seq (.cond (tP 39) .skip (.exit 0)) (.seq (.block 1 (.seq (.ops [mV 40 38,mV 12 40]) (.seq (.seq (.ops [mV 41 0,mV 42 1,mV 43 12,mV 44 10,mV 45 0,oP 46 (.nilck (tP 45)),oP 47 (.fAddr 2 (tP 46)),oP 48 (.fAddr 0 (tP 47)),oP 49 (.load none (tP 48)),oP 50 (.slV 60 (tP 44) none (some (tP 49)) none),oP 51 (.call 63 [tP 41,tP 42,tP 43,tP 50]),mV 13 51]) (.seq (.ops [mV 52 13,oP 53 (.bin .neq (tP 52) (kI 0))]) (.cond (tP 53) (.seq (.ops [mV 54 13,mV 8 54]) .ret) .skip))) (.ops [mV 55 10,mV 56 0,oP 57 (.nilck (tP 56)),oP 58 (.fAddr 2 (tP 57)),oP 59 (.fAddr 0 (tP 58)),oP 60 (.load none (tP 59)),oP 61 (.slV 60 (tP 55) (some (tP 60)) none none),mV 10 61])))) (.ops [oP 62 (.bin .add (tP 38) (kI 1)),mV 38 62])))
def c26 : AC := .seq (.ops [oP 6 (.box (tP 2)),oP 8 (.mv (kI 0))]) (.seq (.seq (.ops [mV 14 0,mV 15 1,oP 16 (.call 61 [tP 14,tP 15,.const (.int .i64 0)]),mV 9 16]) (.seq (.ops [mV 17 9,oP 18 (.bin .neq (tP 17) (kI 0))]) (.cond (tP 18) (.seq (.ops [mV 19 9,mV 8 19]) .ret) .skip))) (.seq (.draw [([mV 21 0,oP 22 (.nilck (tP 21)),oP 23 (.fAddr 2 (tP 22)),oP 24 (.load (some 3) (tP 23)),oP 25 (.load (some 36) (tP 6)),mV 26 3],[oP 27 (.call 62 [tP 24,tP 25,tP 26])],[]),([mV 20 27,oP 28 (.extr (tP 20) 0),oP 29 (.extr (tP 20) 1),mV 10 28,mV 11 29],[],[])]) (.seq (.seq (.ops [mV 30 11,oP 31 (.bin .neq (tP 30) (kI 0))]) (.cond (tP 31) (.seq (.ops [mV 32 11,mV 8 32]) .ret) .skip)) (.seq (.seq (.ops [mV 33 0,oP 34 (.nilck (tP 33)),oP 35 (.fAddr 2 (tP 34)),oP 36 (.fAddr 2 (tP 35)),oP 37 (.load none (tP 36)),oP 38 (.mv (kI 0))]) (.block 0 (.loop c26_0))) (.seq (.ops [oP 8 (.mv (kI 0))]) .ret)))))
theorem k26 : compF Tryz.prog Tryz.f26 = some (c26, [8]) := by kernel_rfl
theorem n26 : Tryz.f26.ntmps = 63 := by kernel_rfl
structure Filled (A : ArB) (V V' : DevS) (a : Nat) (T : List (List UInt8)) (j : Nat) : Prop where
 lk : V'.lock = V.lock
 at' : ∀ k i, k < j → i < A.D + A.P → secF V' (secN A.D A.P A.S a k i) = (secs A ((T.drop (k * A.D)).take A.D))[i]!
 no : ∀ m, m < V.lock.length → (∀ k i, k < j → i < A.D + A.P → m ≠ secN A.D A.P A.S a k i) → secF V' m = secF V m
theorem secN_inj2 {D P S a k k' i i' : Nat} (hk : k < S) (hk' : k' < S) (h : secN D P S a k i = secN D P S a k' i') : k = k' ∧ i = i' := by
 unfold secN at h
 have h1 : i * S + k = i' * S + k' := by omega
 have e1 : (i * S + k) % S = k := by rw [Nat.mul_comm i S, Nat.mul_add_mod, Nat.mod_eq_of_lt hk]
 have e2 : (i' * S + k') % S = k' := by rw [Nat.mul_comm i' S, Nat.mul_add_mod, Nat.mod_eq_of_lt hk']
 have hkk : k = k' := by
  have q : (i * S + k) % S = (i' * S + k') % S := by rw [h1]
  rw [e1, e2] at q; exact q
 subst hkk
 exact ⟨rfl, Nat.eq_of_mul_eq_mul_right (show 0 < S by omega) (show i * S = i' * S by omega)⟩
theorem Filled.zero (A : ArB) (V : DevS) (a : Nat) (T : List (List UInt8)) : Filled A V V a T 0 := ⟨rfl, fun k i hk => by omega, fun _ _ _ => rfl⟩
theorem Filled.succ {A : ArB} {V V1 V2 : DevS} {a j : Nat} {T : List (List UInt8)} (hj : j < A.S) (hlt : ∀ k i, k < A.S → i < A.D + A.P → secN A.D A.P A.S a k i < V.lock.length) (w : Filled A V V1 a T j) (l : Wrote A V1 V2 a j (secs A ((T.drop (j * A.D)).take A.D)) (A.D + A.P)) : Filled A V V2 a T (j + 1) := by
 refine ⟨l.lk.trans w.lk, fun k i hk hi => ?_, fun m hm h => ?_⟩
 ·by_cases q : k = j
  ·subst q; exact l.at' i hi
  ·rw [l.no _ (by rw [w.lk]; exact hlt k i (by omega) hi) (fun i' _ e => q (secN_inj2 (by omega) hj e).1)]
   exact w.at' k i (by omega) hi
 ·rw [l.no m (by rw [w.lk]; exact hm) (fun i hi => h j i (by omega) hi)]
  exact w.no m hm fun k i hk hi => h k i (by omega) hi
theorem fill_ok (A : ArB) (V : DevS) (a : Nat) (ha : a ≤ 2) (x : Hd) (hx : x.hs.length = 32) (img : List UInt8) (hi : img.length ≤ 100000) (hE : txE A.D A.P A.S x img.length = 0) (h : Heap) (K : ArK h A V) (hlk : ∀ k i, k < A.S → i < A.D + A.P → V.lock[secN A.D A.P A.S a k i]! = false) :
  ACalls Tryz.prog 26 [.pointer (some ⟨A.a, 0, none⟩), .int .i64 (a : Int), hv x, .string (bs img)] h fun r h' => r = .int .i64 0 ∧ ∃ V', ArK h' A V' ∧ Filled A V V' a (txL A.D A.P A.S x img) A.S ∧ ArX A h h' := by
 refine acalls_of mix Tryz.func26 k26 n26 (by simp) fun hcl hb => ?_
 obtain ⟨⟨hd1, hd8⟩, ⟨hp2, hp6⟩, hn1, hn8⟩ := right_prop.1 K.rt
 have hlen : (hc x).length = 36 := by simp [hc, ubs_len, hx]
 have c36 := acut_full hlen
 have hva : (.agg (hc x).toArray : Value) = hv x := rfl
 have hba := cellsOf_lt hcl K.ca
 obtain ⟨l1, l2, l3, l4, l5⟩ := K.lo
 have hsz := K.sz
 have c1 : (h.push (.cells (hc x) .ex 1)).Closed := closed_push hcl hc_bel
 have g1 : Gr h (h.push (.cells (hc x) .ex 1)) := ⟨Nat.le_succ _, c1, keep_push hcl _⟩
 have f1 := cellsOf_new h (hc x) .ex 1
 have n1 : (h.push (.cells (hc x) .ex 1)).n = h.n + 1 := rfl
 simp [c26, m_hv]
 generalize h.push (.cells (hc x) .ex 1) = H1 at *
 have K1 := K.keep g1
 have t0 := there_ok A V a 0 H1 K1
 rw [show thereF A.S a 0 = true from thereF_in (k := 0) ha (by omega)] at t0
 refine t0.mono ?_
 rintro _ h9 ⟨rfl, e⟩
 rw [e]; clear e h9
 have ca1 := K1.ca
 simp [ca1, apart, acut_area, gva, f1, c36, hva]
 refine (atext_ok A.D A.P A.S x hx img hi H1).mono' ?_
 rintro _ H2 c2 _ ⟨v, rfl, n2⟩
 rw [hE]
 have g2 := n2.2.2
 have g12 := g1.trans g2
 have K2 := K.keep g12
 have ca2 := K2.ca
 have hTl : (txL A.D A.P A.S x img).length = A.D * A.S := by
  unfold txL
  rw [if_pos hE, splitT_len]
  have : ((A.D : Int) * A.S) = ((A.D * A.S : Nat) : Int) := by push_cast; rfl
  rw [this]; rfl
 obtain ⟨h60, ⟨nm, lT, xT⟩, _⟩ := n2
 obtain ⟨T, hT⟩ : ∃ T, txL A.D A.P A.S x img = T := ⟨_, rfl⟩
 rw [hT] at hTl h60 lT ⊢
 have hDS : 1 ≤ A.D * A.S := Nat.mul_pos (by omega) (by omega)
 obtain ⟨u, md, es, rfl, rfl, hu, hul, hro, hes⟩ : ∃ u md e, nm = some u ∧ v = .slice (some ⟨u, 0, none⟩) T.length T.length ∧ H2.cellsOf u = some (ubs T.flatten, md, e) ∧ (ubs T.flatten).length = T.length * 60 ∧ md ≠ .ro ∧ (md.isLoose = true → e = 60) := by
  rcases lT with ⟨_, _, q, _⟩ | q
  ·omega
  ·exact q
 have hun : h.n + 1 ≤ u := by have := xT u rfl; rw [n1] at this; omega
 have bu := cellsOf_lt c2 hu
 have g2n := g12.n
 simp [ca2, apart]
 have hall : ∀ k i, k < A.S → i < A.D + A.P → secN A.D A.P A.S a k i < V.lock.length := fun k i hk hi => by have := (secN_lt K.rt ha hk hi).1; omega
 have hTD : T.length ≤ 64 := by
  have : A.D * A.S ≤ 8 * 8 := Nat.mul_le_mul (by omega) (by omega)
  omega
 have hsl0 : (.slice (some ⟨u, 0, none⟩) T.length T.length : Value) = .slice (some ⟨u, 0 * A.D * 60, none⟩) (T.length - 0 * A.D) (T.length - 0 * A.D) := by simp
 rw [hsl0]
 refine awp_loop_of (α := LaS) (fun z => z.j ≤ A.S ∧ ArK z.H A z.V ∧ Filled A V z.V a T z.j ∧ z.H.cellsOf u = some (ubs T.flatten, md, es) ∧ ArX A h z.H ∧ h.n + 1 ≤ z.H.n) (fun z => [(0, .pointer (some ⟨A.a, 0, none⟩)), (1, .int .i64 (a : Int)), (10, .slice (some ⟨u, z.j * A.D * 60, none⟩) (T.length - z.j * A.D) (T.length - z.j * A.D)), (37, .int .i64 (A.S : Int)), (38, .int .i64 (z.j : Int))]) (fun z => z.H) (fun z => A.S - z.j) ⟨0, V, H2⟩
  ⟨Nat.zero_le _, K2, Filled.zero A V a T, hu, Xd.of g12, by show h.n + 1 ≤ H2.n; omega⟩ ⟨g2n, Nat.le_refl _, fun _ _ e => e, c2⟩ (by simp; exact ⟨.ptr (by show A.a < _; omega), .int, .slice bu, .int, .int⟩) ?_
 rintro ⟨j, V2, H⟩ ⟨hj, K3, w3, u3, g3, n3⟩
 dsimp only at hj K3 w3 u3 g3 n3 ⊢
 have ca3 := K3.ca
 by_cases hlt : j < A.S
 ·have hi' : (j : Int) < (A.S : Int) := by omega
  have w4 : IntKind.i64.wrap ((j : Int) + 1) = ((j + 1 : Nat) : Int) := by rw [IntWalk.i64_in _ (by omega)]; omega
  have hjD : (j + 1) * A.D ≤ T.length := by rw [hTl, Nat.mul_comm A.D]; exact Nat.mul_le_mul_right _ hlt
  have hjD2 : (j + 1) * A.D = j * A.D + A.D := by rw [Nat.add_mul, Nat.one_mul]
  obtain ⟨N, hN⟩ : ∃ N, T.length - j * A.D = N := ⟨_, rfl⟩
  have hND : A.D ≤ N := by omega
  have hab : abounds N N none (some (.int .i64 (A.D : Int))) none = some (0, A.D, N) := abounds_hi hND
  have hab2 : abounds N N (some (.int .i64 (A.D : Int))) none none = some (A.D, N, N) := abounds_lo hND (Nat.le_refl _)
  have hml : (md.isLoose = true → es = 60) = True := eq_true hes
  obtain ⟨B, hB⟩ : ∃ B, (T.drop (j * A.D)).take A.D = B := ⟨_, rfl⟩
  have hBl : B.length = A.D := by rw [← hB, List.length_take, List.length_drop]; omega
  have hBg : ∀ i (hi : i < B.length), T[j * A.D + i]? = some B[i] := fun i hi => by
   subst hB
   rw [List.getElem_take, List.getElem_drop, List.getElem?_eq_getElem]
  have hbl : ∀ H : Heap, H.cellsOf u = some (ubs T.flatten, md, es) → ∀ cp, BlS H (.slice (some ⟨u, j * A.D * 60, none⟩) A.D cp) B := fun H hH cp => by
   refine ⟨fun y hy => h60 y ?_, .inr ⟨u, j * A.D * 60, cp, _, _, _, by rw [hBl], hH, fun i hi => ?_⟩⟩
   ·rw [← hB] at hy
    exact List.mem_of_mem_drop (List.mem_of_mem_take hy)
   ·have hti : j * A.D + i < T.length := by rw [hBl] at hi; omega
    have := flat_cut h60 (j * A.D + i) hti
    rw [← Nat.add_mul, this]
    congr 2
    have q := hBg i hi
    rw [List.getElem?_eq_getElem hti] at q
    exact Option.some.inj q
  rw [hN]
  simp [c26_0, hi', ca3, apart, hab, u3, hml, -Int.natCast_add]
  refine (awrite_ok A V2 a j ha hlt B hBl _ H K3 (hbl H u3 N) (fun i hi => by rw [w3.lk]; exact hlk j i hlt hi)).mono' ?_
  rintro _ H4 c4 _ ⟨rfl, V4, K4, w4', g4⟩
  rw [← hB] at w4'
  have w5 := w3.succ hlt hall w4'
  have ca4 := K4.ca
  have u4 : H4.cellsOf u = some (ubs T.flatten, md, es) := by
   have := g4.m u _ (m_of_cells u3) (by omega) (by omega) (by omega) (by omega)
   unfold Heap.cellsOf; rw [this]
  have g34 := Xd.trans g3 g4
  have bu4 := cellsOf_lt c4 u4
  have n4 := g4.n
  simp [ca4, apart, hab2, u4, hml, w4, -Int.natCast_add]
  refine ⟨⟨j + 1, V4, H4⟩, by show A.S - (j + 1) < A.S - j; omega, ⟨by show j + 1 ≤ A.S; omega, K4, w5, u4, g34, by show h.n + 1 ≤ H4.n; omega⟩, ⟨g34.n, Nat.le_refl _, fun _ _ e => e, c4⟩, .ptr (by show A.a < H4.n; omega), .int, ?_, .int, rfl, .int⟩
  have e1 : T.length - (j + 1) * A.D = N - A.D := by omega
  have e2 : j * A.D * 60 + A.D * 60 = (j + 1) * A.D * 60 := by rw [hjD2, Nat.add_mul]
  exact ⟨by simp [e1, e2], .slice bu4⟩
 ·have hje : j = A.S := by omega
  subst hje
  simp [c26_0]
  exact ⟨V2, K3, w3, g3⟩

def ldT (A : ArB) (X : Nat → List (List UInt8)) : Nat → List UInt8
 | 0 => []
 | k + 1 => ldT A X k ++ ((X k).take A.D).flatten
theorem wrF_len (X l : List (List UInt8)) (i : Nat) : (wrF X l i).length ≤ i := Nat.le_trans (List.length_filter_le _ _) (by simp)
end Go.Proofs.YtdnmkenamgfjoaaGreat.arbe

