/-
 Contracts.
-/
import Derived.Test.YtdnmkenamgfjoaaGreatSha
import Derived.IntWalk
import Derived.KernelRfl
set_option linter.unusedSimpArgs false
set_option linter.unusedVariables false
set_option linter.unusedSectionVars false
namespace Go.Proofs.YtdnmkenamgfjoaaGreat.arba
open Go Go.Ab Go.Proofs Go.RowKit str vers lin1 sha
variable [Inhabited TabBox]
variable [Nonempty GF]
variable [Nonempty GE]
set_option maxRecDepth 100000
def z36 : List Value := [.int .i64 0,.int .i64 0,.int .i64 0,.int .i64 0] ++ zl .u8 32
def ckl (n : Nat) : List CK := List.replicate n .i
def c127 : AC := sO [oP 1 (.box (tP 0)),oP 2 (.mv kF)] (.seq (sO [oP 5 (fA 0 1),oP 6 (.load (some 3) (tP 5)),oP 7 (.mv (kI 0))] (.block 0 (.loop (sO [oP 8 (bK .lss 7 3)] (.seq (cT 8 .skip (.exit 0)) (.seq (.block 1 (sO [oP 9 (.iValA 3 1 none (tP 6) (tP 7)),mV 4 9] (sO [mV 10 4,oP 11 (bK .lss 10 0),mV 12 11,gP 13 12 false (.mv (tP 4)),gP 14 12 false (bK .gtr 13 65535),oP 15 (pT 12 14)] (cT 15 (sO [oP 2 (.mv kF)] .ret) .skip)))) (.ops [oP 16 (bK .add 7 1),mV 7 16]))))))) (sO [oP 17 (fA 3 1),oP 18 (lN 17),oP 19 (bK .geq 18 0),mV 20 19,gP 21 20 true (fA 3 1),gP 22 20 true (lN 21),gP 23 20 true (bK .leq 22 16777215),oP 24 (pF 20 23),mV 2 24] .ret))
theorem k127 : compF Tryz.prog Tryz.f127 = some (c127,[2]) := by kernel_rfl
theorem n127 : Tryz.f127.ntmps = 25 := by kernel_rfl
def c27 : AC := sO [oP 2 (.box (tP 0)),oP 4 (.alloc z36)] (.seq (.draw [([oP 5 (.load (some 3) (tP 2)),mV 6 1,oP 7 (.lenS true (tP 6)),mV 8 1],[oP 9 (.buildS 1 [.string ⟨⟨[]⟩⟩] [(0,1,.tmp 8)])],[oP 5 (.load (some 3) (tP 2))]),([],[oP 10 (.call 64 [tP 9])],[oP 5 (.load (some 3) (tP 2))]),([oP 11 (.build z36 [(0,3,.tmp 5),(3,1,.tmp 7),(4,32,.tmp 10)])],[nP (.store 36 (tP 4) (tP 11))],[]),([],[],[])]) .ret)
theorem k27 : compR Tryz.prog Tryz.f27 = some (c27,[.c 4 (some 36)]) := by kernel_rfl
theorem n27 : Tryz.f27.ntmps = 12 := by kernel_rfl
structure Hd where
 a : Int
 b : Int
 c : Int
 n : Int
 hs : List UInt8
 deriving DecidableEq
def Hd.vs (x : Hd) : List Int := [x.a,x.b,x.c]
def hc (x : Hd) : List Value := [.int .i64 x.a,.int .i64 x.b,.int .i64 x.c,.int .i64 x.n] ++ ubs x.hs
def hv (x : Hd) : Value := .agg (hc x).toArray
theorem m_hv (x : Hd) : mcells (hv x) = some (hc x) := by simp [mcells,hv]
theorem m_hc (x : Hd) : mcells (.agg (hc x).toArray) = some (hc x) := by simp [mcells]
theorem hc_bel {n : Nat} {x : Hd} : ∀ v ∈ hc x,VBelow n v := fun v hv => by
 rcases List.mem_append.1 hv with hv | hv
 ·simp at hv
  rcases hv with rfl | rfl | rfl | rfl <;> exact .int
 ·exact ubs_bel v hv
theorem hv_below {n : Nat} {x : Hd} : VBelow n (hv x) := .agg fun i hi => by
 rw [toArray_getD]
 have hi' : i < (hc x).length := by simpa using hi
 simp only [List.getD, List.getElem?_eq_getElem hi', Option.getD_some]
 exact hc_bel _ (List.getElem_mem hi')
def rng (v : Int) : Prop := 0 ≤ v ∧ v ≤ 65535
instance (v : Int) : Decidable (rng v) := inferInstanceAs (Decidable (_ ∧ _))
def rightH (x : Hd) : Prop := (∀ j,j < 3 → rng (x.vs.getD j 0)) ∧ 0 ≤ x.n ∧ x.n ≤ 16777215
instance (x : Hd) : Decidable (rightH x) := inferInstanceAs (Decidable (_ ∧ _))
theorem vs_get (x : Hd) (j : Nat) (hj : j < 3) : ([.int .i64 x.a,.int .i64 x.b,.int .i64 x.c] : List Value)[j]? = some (.int .i64 (x.vs.getD j 0)) := by
 match j,hj with
 | 0,_ => rfl
 | 1,_ => rfl
 | 2,_ => rfl
theorem hc_cut3 (x : Hd) : acut (hc x) 0 3 = some [.int .i64 x.a,.int .i64 x.b,.int .i64 x.c] := by
 unfold acut hc
 rw [if_pos (by simp)]
 rfl
theorem hc3 (x : Hd) : (hc x)[3]? = some (.int .i64 x.n) := rfl
theorem hcj (x : Hd) (j : Nat) (hj : j < 3) : (hc x)[j]? = some (.int .i64 (x.vs.getD j 0)) := by
 match j,hj with
 | 0,_ => rfl
 | 1,_ => rfl
 | 2,_ => rfl
theorem hright_ok (x : Hd) (h : Heap) : ACalls Tryz.prog 127 [hv x] h fun v h' => v = .bool (decide (rightH x)) ∧ h' = h := by
 refine ACalls.same .bool (acalls_of mix Tryz.func127 k127 n127 (by simp) fun hcl hb => ?_)
 have hc1 : (h.push (.cells (hc x) .ex 1)).Closed := closed_push hcl hc_bel
 have hext := (Heap.Ext.refl h).push hcl (.cells (hc x) .ex 1)
 have c3 := hc_cut3 x
 simp [c127,m_hv,cellsOf_new,cellsOf_at,apart,c3]
 generalize hZ : h.push (.cells (hc x) .ex 1) = Z at *
 have hZn : Z.n = h.n + 1 := by rw [← hZ]; rfl
 have fZ : Z.cellsOf h.n = some (hc x,.ex,1) := by rw [← hZ]; exact cellsOf_new _ _ _ _
 generalize hAG : ([.int .i64 x.a,.int .i64 x.b,.int .i64 x.c] : List Value) = AG at *
 have bag : ∀ n,VBelow n (.agg AG.toArray) := fun n => .agg fun i hi => by
  rw [toArray_getD]
  have hi' : i < AG.length := by simpa using hi
  have h3 : AG.length = 3 := by rw [← hAG]; rfl
  have := vs_get x i (by omega)
  rw [hAG] at this
  simp only [List.getD,this,Option.getD_some]
  exact .int
 refine awp_loop_of (α := Nat) (fun i => i ≤ 3 ∧ ∀ j,j < i → rng (x.vs.getD j 0)) (fun i => [(1,.pointer (some ⟨h.n,0,none⟩)),(6,.agg AG.toArray),(7,.int .i64 i)]) (fun _ => Z) (fun i => 3 - i) 0
  ⟨by omega,fun j hj => by omega⟩ ⟨by omega,Nat.le_refl _,fun _ _ e => e,hc1⟩ (by simp; exact ⟨.ptr (by show h.n < Z.n; omega),bag _,.int⟩) ?_
 rintro i ⟨hi,hall⟩
 by_cases hi3 : i < 3
 ·have hi' : (i : Int) < 3 := by omega
  have hw : IntKind.i64.wrap ((i : Int) + 1) = ((i + 1 : Nat) : Int) := by rw [i64_small (by omega) (by omega)]; omega
  have g := vs_get x i hi3
  rw [hAG] at g
  by_cases h0 : x.vs.getD i 0 < 0
  ·have : ¬ rightH x := fun q => by have := (q.1 i hi3).1; omega
   rw [decide_eq_false this]
   generalize x.vs.getD i 0 = y at *
   simp [hi', aidx_of hi3, apart, g, h0]; exact hext
  by_cases h1 : 65535 < x.vs.getD i 0
  ·have : ¬ rightH x := fun q => by have := (q.1 i hi3).2; omega
   rw [decide_eq_false this]
   generalize x.vs.getD i 0 = y at *
   simp [hi', aidx_of hi3, apart, g, h0, h1]; exact hext
  have hr : rng (x.vs.getD i 0) := ⟨by omega,by omega⟩
  have hall' : ∀ j,j < i + 1 → rng (x.vs.getD j 0) := fun j hj => by
   by_cases hji : j = i
   ·rw [hji]; exact hr
   ·exact hall j (by omega)
  generalize x.vs.getD i 0 = y at *
  simp [hi', aidx_of hi3, apart, g, h0, h1]
  exact ⟨i + 1,by omega,⟨by omega,fun j hj => by simpa using hall' j hj⟩,⟨by omega,Nat.le_refl _,fun _ _ e => e,hc1⟩,.ptr (by show h.n < Z.n; omega),bag _,hw,.int⟩
 ·have hie : i = 3 := by omega
  subst hie
  have g3 := hc3 x
  have hd : decide (rightH x) = (decide (0 ≤ x.n) && decide (x.n ≤ 16777215)) := by
   rw [← Bool.decide_and]
   exact decide_eq_decide.2 ⟨fun q => q.2,fun q => ⟨hall,q⟩⟩
  rw [hd]
  by_cases h0 : 0 ≤ x.n
  ·simp [fZ,apart,g3,h0]; exact hext
  ·simp [fZ,apart,g3,h0]; exact hext
def zH : Hd := ⟨0,0,0,0,z32⟩
theorem z36_len : z36.length = 36 := by simp [z36,zl]
theorem z36_eq : z36 = hc zH := by
 unfold z36 hc zH zl ubs z32
 congr 1
theorem hc_cut32 (x : Hd) (hx : x.hs.length = 32) : acut (hc x) 4 32 = some (ubs x.hs) := by
 unfold acut hc
 rw [if_pos (by simp [ubs_len,hx])]
 simp only [Option.some.injEq]
 show List.take 32 (ubs x.hs) = _
 rw [List.take_of_length_le (by rw [ubs_len,hx]; omega)]
theorem af36 {a b c n : Int} {l : List UInt8} (h : l.length = 32) : afill z36 [(0,3,.agg #[.int .i64 a,.int .i64 b,.int .i64 c]),(3,1,.int .i64 n),(4,32,.agg (ubs l).toArray)] = some (hc ⟨a,b,c,n,l⟩) := by
 have hu : (ubs l).length = 32 := by rw [ubs_len,h]
 have hd : List.drop 36 z36 = [] := List.drop_eq_nil_of_le (by rw [z36_len]; omega)
 simp [afill,mcells,hu,z36_len,hd,hc]
theorem sl_str (H : Heap) (s : List UInt8) : Sl enS (H.push (.cells [.string (bs s)] .ex 1)) (.slice (some ⟨H.n,0,none⟩) 1 1) [s] :=
 .inr ⟨H.n,0,1,[.string (bs s)],.ex,1,rfl,cellsOf_new _ _ _ _,Nat.le_refl _,fun _ => by simp,fun i hi => by
  have : i = 0 := by simpa using hi
  subst this; rfl⟩
def v3 (a b c : Int) : Value := .agg #[.int .i64 a,.int .i64 b,.int .i64 c]
theorem hof_ok (a b c : Int) (img : List UInt8) (hi : img.length ≤ 10000000) (h : Heap) : ACalls Tryz.prog 27 [v3 a b c,.string (bs img)] h fun v h' => v = hv ⟨a,b,c,img.length,shaB img⟩ ∧ h' = h := by
 refine ACalls.same hv_below (acalls_ofR mix Tryz.func27 k27 n27 (by simp) fun hcl hb => ?_)
 have m3 : mcells (v3 a b c) = some [.int .i64 a,.int .i64 b,.int .i64 c] := rfl
 have hz := z36_len
 have hbsz := bs_size img
 have c3 : acut [.int .i64 a,.int .i64 b,.int .i64 c] 0 3 = some [.int .i64 a,.int .i64 b,.int .i64 c] := rfl
 have fil : afill [.string (bs [])] [(0,1,.string (bs img))] = some [.string (bs img)] := rfl
 have hb1 : ¬ h.n = h.n + 1 := by omega
 simp only [c27,s_seq,s_ops]
 simp [m3,cellsOf_ne,cellsOf_at,hb1,apart,c3,hbsz,bs_lit,fil]
 refine (sum_ok [img] _ _ (sl_str _ img) (by simp; omega) (by simp)).mono ?_
 rintro _ h9 ⟨rfl,e⟩
 rw [e]
 clear e h9
 have hf : [img].flatten = img := by simp
 rw [hf]
 have haf := af36 (a := a) (b := b) (c := c) (n := (img.length : Int)) (shaB_len img)
 have hl36 : (hc ⟨a,b,c,img.length,shaB img⟩).length = 36 := by simp [hc,ubs_len,shaB_len]
 have hp : aput z36 0 (hc ⟨a,b,c,img.length,shaB img⟩) = hc ⟨a,b,c,img.length,shaB img⟩ := aput_all _ _ (by rw [hl36,hz])
 have ha := acut_full hl36
 have hn2 : ¬ h.n + 1 = h.n := by omega
 simp [cellsOf_ne,cellsOf_at,hb1,hn2,apart,c3,haf,m_hc,hl36,hp,ha,hz,push_set,set_at]
 exact ⟨rfl,(((Heap.Ext.refl h).push hcl _).push hcl _).push hcl _⟩
namespace Pl
def xt (a : UInt8) : UInt8 := (a <<< 1) ^^^ (if a < 128 then 0 else 29)
def xtN : Nat → UInt8 → UInt8
 | 0,a => a
 | n + 1,a => xt (xtN n a)
theorem all256 {p : UInt8 → Prop} [DecidablePred p] (h : (List.range 256).all (fun i => decide (p (UInt8.ofNat i))) = true) (a : UInt8) : p a := by
 have := List.all_eq_true.1 h a.toNat (List.mem_range.2 a.toNat_lt)
 have e : UInt8.ofNat a.toNat = a := UInt8.ofNat_toNat
 rw [e] at this
 exact of_decide_eq_true this
theorem xor_lt (a b : UInt8) : (a ^^^ b < 128) ↔ ((a < 128) ↔ (b < 128)) := by
 have key : ∀ x : UInt8,(x < 128) ↔ x.toBitVec.msb = false := fun x => by
  rw [UInt8.lt_iff_toNat_lt,BitVec.msb_eq_decide]
  simp
 rw [key,key,key,UInt8.toBitVec_xor,BitVec.msb_xor]
 cases a.toBitVec.msb <;> cases b.toBitVec.msb <;> simp
theorem xt_xor (a b : UInt8) : xt (a ^^^ b) = xt a ^^^ xt b := by
 unfold xt
 have hs : (a ^^^ b) <<< 1 = (a <<< 1) ^^^ (b <<< 1) := by
  apply UInt8.eq_of_toBitVec_eq
  simp [BitVec.shiftLeft_xor_distrib]
 rw [hs]
 have hx := xor_lt a b
 by_cases h1 : a < 128 <;> by_cases h2 : b < 128
 ·rw [if_pos (hx.2 (by simp [h1,h2])),if_pos h1,if_pos h2]; simp
 ·rw [if_neg (fun q => by have := hx.1 q; simp [h1,h2] at this),if_pos h1,if_neg h2]; simp [UInt8.xor_assoc]
 ·rw [if_neg (fun q => by have := hx.1 q; simp [h1,h2] at this),if_neg h1,if_pos h2,UInt8.xor_zero]; ac_rfl
 ·rw [if_pos (hx.2 (by simp [h1,h2])),if_neg h1,if_neg h2]
  have e : ∀ x y z : UInt8,x ^^^ z ^^^ (y ^^^ z) = x ^^^ y ^^^ (z ^^^ z) := fun x y z => by ac_rfl
  rw [e]; simp
theorem xtN_xor (a b : UInt8) : ∀ n,xtN n (a ^^^ b) = xtN n a ^^^ xtN n b
 | 0 => rfl
 | n + 1 => by show xt (xtN n (a ^^^ b)) = _; rw [xtN_xor a b n,xt_xor]; rfl
theorem xtN_zero : ∀ n,xtN n 0 = 0
 | 0 => rfl
 | n + 1 => by show xt (xtN n 0) = 0; rw [xtN_zero n]; rfl
theorem xtN_add (a : UInt8) (m : Nat) : ∀ n,xtN (n + m) a = xtN n (xtN m a)
 | 0 => by rw [Nat.zero_add]; rfl
 | n + 1 => by rw [Nat.succ_add]; show xt (xtN (n + m) a) = xt (xtN n (xtN m a)); rw [xtN_add a m n]
def al (k : Nat) : UInt8 := xtN k 1
theorem al_add (i j : Nat) : al (i + j) = xtN i (al j) := xtN_add 1 j i
theorem al255 : al 255 = 1 := by decide +kernel
theorem al_mod (k : Nat) : al k = al (k % 255) := by
 have : ∀ q r,al (255 * q + r) = al r := fun q r => by
  induction q with
  | zero => rw [Nat.mul_zero,Nat.zero_add]
  | succ q ih =>
    rw [show 255 * (q + 1) + r = (255 * q + r) + 255 by omega,al_add,al255]
    exact ih
 have h := this (k / 255) (k % 255)
 rw [Nat.div_add_mod] at h
 exact h
def lgT : Nat → List Nat
 | 0 => List.replicate 256 0
 | k + 1 => (lgT k).set (al k).toNat k
def lg (a : UInt8) : Nat := (lgT 255).getD a.toNat 0
theorem lg_all : (List.range 256).all (fun i => decide (i = 0 ∨ (lg (UInt8.ofNat i) < 255 ∧ al (lg (UInt8.ofNat i)) = UInt8.ofNat i))) = true := by decide +kernel
theorem lg_al_all : (List.range 255).all (fun i => decide (lg (al i) = i ∧ al i ≠ 0)) = true := by decide +kernel
theorem lg_spec {a : UInt8} (h : a ≠ 0) : lg a < 255 ∧ al (lg a) = a := by
 have := List.all_eq_true.1 lg_all a.toNat (List.mem_range.2 a.toNat_lt)
 rw [UInt8.ofNat_toNat] at this
 rcases of_decide_eq_true this with h0 | h1
 ·exact absurd (UInt8.toNat_inj.1 (by rw [h0]; rfl)) h
 ·exact h1
theorem al_ne (k : Nat) : al k ≠ 0 := by
 rw [al_mod]
 exact (of_decide_eq_true (List.all_eq_true.1 lg_al_all (k % 255) (List.mem_range.2 (Nat.mod_lt _ (by omega))))).2
theorem lg_al (k : Nat) : lg (al k) = k % 255 := by
 rw [al_mod]
 exact (of_decide_eq_true (List.all_eq_true.1 lg_al_all (k % 255) (List.mem_range.2 (Nat.mod_lt _ (by omega))))).1
theorem al_inj {i j : Nat} (h : al i = al j) : i % 255 = j % 255 := by rw [← lg_al,← lg_al,h]
def gm (a b : UInt8) : UInt8 := if a = 0 ∨ b = 0 then 0 else al (lg a + lg b)
theorem gm_xt {a : UInt8} (h : a ≠ 0) (b : UInt8) : gm a b = xtN (lg a) b := by
 unfold gm
 by_cases hb : b = 0
 ·rw [if_pos (.inr hb),hb,xtN_zero]
 ·rw [if_neg (by simp [h,hb]),al_add,(lg_spec hb).2]
theorem gm_zero (a : UInt8) : gm a 0 = 0 := if_pos (.inr rfl)
theorem zero_gm (a : UInt8) : gm 0 a = 0 := if_pos (.inl rfl)
theorem gm_comm (a b : UInt8) : gm a b = gm b a := by unfold gm; rw [Nat.add_comm]; simp only [or_comm]
theorem gm_ne {a b : UInt8} (ha : a ≠ 0) (hb : b ≠ 0) : gm a b ≠ 0 := by unfold gm; rw [if_neg (by simp [ha,hb])]; exact al_ne _
theorem gm_eq0 {a b : UInt8} (h : gm a b = 0) : a = 0 ∨ b = 0 := by
 by_cases ha : a = 0
 ·exact .inl ha
 ·by_cases hb : b = 0
  ·exact .inr hb
  ·exact absurd h (gm_ne ha hb)
theorem gm_al (i j : Nat) : gm (al i) (al j) = al (i + j) := by
 unfold gm
 rw [if_neg (by simp [al_ne]),lg_al,lg_al,al_mod,al_mod (i + j)]
 congr 1
 omega
theorem al0 : al 0 = 1 := rfl
theorem one_gm (a : UInt8) : gm 1 a = a := by
 by_cases h : a = 0
 ·rw [h,gm_zero]
 ·rw [← (lg_spec h).2,← al0,gm_al,Nat.zero_add]
theorem gm_one (a : UInt8) : gm a 1 = a := by rw [gm_comm,one_gm]
theorem gm_assoc (a b c : UInt8) : gm (gm a b) c = gm a (gm b c) := by
 by_cases ha : a = 0
 ·rw [ha,zero_gm,zero_gm,zero_gm]
 by_cases hb : b = 0
 ·rw [hb,gm_zero,zero_gm,gm_zero]
 by_cases hc : c = 0
 ·rw [hc,gm_zero,gm_zero,gm_zero]
 rw [← (lg_spec ha).2,← (lg_spec hb).2,← (lg_spec hc).2,gm_al,gm_al,gm_al,gm_al,Nat.add_assoc]
theorem gm_xor (a b c : UInt8) : gm a (b ^^^ c) = gm a b ^^^ gm a c := by
 by_cases ha : a = 0
 ·rw [ha,zero_gm,zero_gm,zero_gm]; rfl
 ·rw [gm_xt ha,gm_xt ha,gm_xt ha,xtN_xor]
theorem xor_gm (a b c : UInt8) : gm (a ^^^ b) c = gm a c ^^^ gm b c := by rw [gm_comm,gm_xor,gm_comm c a,gm_comm c b]
def gi (a : UInt8) : UInt8 := al (255 - lg a)
theorem gm_gi {a : UInt8} (h : a ≠ 0) : gm a (gi a) = 1 := by
 obtain ⟨h1,h2⟩ := lg_spec h
 unfold gi
 have : gm (al (lg a)) (al (255 - lg a)) = 1 := by
  rw [gm_al,show lg a + (255 - lg a) = 255 by omega,al255]
 rwa [h2] at this
theorem gi_ne (a : UInt8) : gi a ≠ 0 := al_ne _
theorem gm_cancel {a b c : UInt8} (h : a ≠ 0) (e : gm a b = gm a c) : b = c := by
 have := congrArg (gm (gi a)) e
 rwa [← gm_assoc,← gm_assoc,gm_comm (gi a) a,gm_gi h,one_gm,one_gm] at this
theorem xself (a : UInt8) : a ^^^ a = 0 := UInt8.xor_self
theorem xeq {a b : UInt8} (h : a ^^^ b = 0) : a = b := by
 have : (a ^^^ b) ^^^ b = 0 ^^^ b := by rw [h]
 rw [UInt8.xor_assoc,UInt8.xor_self] at this
 simpa using this
end Pl
namespace Pl
def ev (x : UInt8) (w : List UInt8) : UInt8 := w.foldl (fun a c => gm a x ^^^ c) 0
def pw (x : UInt8) : Nat → UInt8
 | 0 => 1
 | n + 1 => gm (pw x n) x
theorem ev_foldl (x : UInt8) : ∀ (w : List UInt8) (a : UInt8),w.foldl (fun a c => gm a x ^^^ c) a = gm a (pw x w.length) ^^^ ev x w
 | [],a => by show a = gm a 1 ^^^ 0; rw [gm_one]; simp
 | c :: w,a => by
   unfold ev
   rw [List.foldl_cons,List.foldl_cons,ev_foldl x w,ev_foldl x w (gm 0 x ^^^ c),zero_gm,UInt8.zero_xor,xor_gm,UInt8.xor_assoc]
   congr 1
   show gm (gm a x) (pw x w.length) = gm a (gm (pw x w.length) x)
   rw [gm_assoc,gm_comm x]
theorem ev_nil (x : UInt8) : ev x [] = 0 := rfl
theorem ev_cons (x c : UInt8) (w : List UInt8) : ev x (c :: w) = gm c (pw x w.length) ^^^ ev x w := by
 have := ev_foldl x w c
 show w.foldl _ (gm 0 x ^^^ c) = _
 rw [zero_gm,UInt8.zero_xor]; exact this
theorem ev_app (x : UInt8) (a b : List UInt8) : ev x (a ++ b) = gm (ev x a) (pw x b.length) ^^^ ev x b := by
 unfold ev
 rw [List.foldl_append]
 exact ev_foldl x b _
theorem ev_snoc (x : UInt8) (a : List UInt8) (c : UInt8) : ev x (a ++ [c]) = gm (ev x a) x ^^^ c := by
 unfold ev; rw [List.foldl_append]; rfl
theorem ev_zeros (x : UInt8) (n : Nat) : ev x (List.replicate n 0) = 0 := by
 induction n with
 | zero => rfl
 | succ n ih => rw [List.replicate_succ,ev_cons,ih,zero_gm]; rfl
def xl (a b : List UInt8) : List UInt8 := List.zipWith (· ^^^ ·) a b
theorem ev_xl (x : UInt8) : ∀ a b : List UInt8,a.length = b.length → ev x (xl a b) = ev x a ^^^ ev x b
 | [],[],_ => by show (0 : UInt8) = 0 ^^^ 0; simp
 | a :: u1,b :: u2,h => by
   have h' : u1.length = u2.length := by simpa using h
   have ih := ev_xl x u1 u2 h'
   have hl : (xl u1 u2).length = u1.length := by unfold xl; rw [List.length_zipWith, h', Nat.min_self]
   show ev x ((a ^^^ b) :: xl u1 u2) = _
   rw [ev_cons,ev_cons,ev_cons,ih,hl,xor_gm,h']
   ac_rfl
theorem ev_scale (x c : UInt8) : ∀ a : List UInt8,ev x (a.map (gm c)) = gm c (ev x a)
 | [] => by rw [List.map_nil,ev_nil,gm_zero]
 | a :: u1 => by
   rw [List.map_cons,ev_cons,ev_cons,ev_scale x c u1,List.length_map,gm_xor,gm_assoc]
theorem pw_al (i : Nat) : ∀ n,pw (al i) n = al (i * n)
 | 0 => by rw [Nat.mul_zero]; rfl
 | n + 1 => by show gm (pw (al i) n) (al i) = _; rw [pw_al i n,gm_al,Nat.mul_succ]
end Pl
namespace Pl
def ps (L : List (UInt8 × UInt8)) (i : Nat) : UInt8 := L.foldr (fun q a => gm q.2 (pw q.1 i) ^^^ a) 0
theorem ps_cons (q : UInt8 × UInt8) (L : List (UInt8 × UInt8)) (i : Nat) : ps (q :: L) i = gm q.2 (pw q.1 i) ^^^ ps L i := rfl
theorem x4 (a b c d : UInt8) : (a ^^^ b) ^^^ (c ^^^ d) = (a ^^^ c) ^^^ (b ^^^ d) := by ac_rfl
theorem ps_map (X : UInt8) (i : Nat) : ∀ r : List (UInt8 × UInt8),ps (r.map fun q => (q.1,gm q.2 (q.1 ^^^ X))) i = ps r (i + 1) ^^^ gm X (ps r i)
 | [] => by show (0 : UInt8) = 0 ^^^ gm X 0; rw [gm_zero]; simp
 | q :: r => by
   rw [List.map_cons,ps_cons,ps_cons,ps_cons,ps_map X i r,gm_xor X (gm q.2 (pw q.1 i)) (ps r i)]
   show gm (gm q.2 (q.1 ^^^ X)) (pw q.1 i) ^^^ _ = _
   have e : gm (gm q.2 (q.1 ^^^ X)) (pw q.1 i) = gm q.2 (pw q.1 (i + 1)) ^^^ gm X (gm q.2 (pw q.1 i)) := by
    rw [gm_xor,xor_gm]
    congr 1
    ·rw [gm_assoc,gm_comm q.1]; rfl
    ·rw [gm_comm q.2 X,gm_assoc]
   rw [e]
   ac_rfl
theorem vand : ∀ (n : Nat) (L : List (UInt8 × UInt8)),L.length = n → (L.map Prod.fst).Nodup → (∀ i,i < n → ps L i = 0) → ∀ q ∈ L,q.2 = 0
 | 0,L,h,_,_,q,hq => by rw [List.eq_nil_of_length_eq_zero h] at hq; cases hq
 | n + 1,[],h,_,_,_,_ => by simp at h
 | n + 1,(X,Y) :: r,h,hd,hs,q,hq => by
   have hr : r.length = n := by simpa using h
   rw [List.map_cons,List.nodup_cons] at hd
   obtain ⟨hx,hd⟩ := hd
   have ih := vand n (r.map fun q => (q.1,gm q.2 (q.1 ^^^ X))) (by rw [List.length_map,hr]) (by rw [List.map_map]; exact hd) fun i hi => by
    rw [ps_map]
    have h1 := hs i (by omega)
    have h2 := hs (i + 1) (by omega)
    rw [ps_cons] at h1 h2
    dsimp only at h1 h2
    rw [← xeq h1,← xeq h2]
    show gm Y (gm (pw X i) X) ^^^ gm X (gm Y (pw X i)) = 0
    rw [gm_comm (pw X i) X,← gm_assoc,gm_comm Y X,gm_assoc,xself]
   have hall : ∀ q ∈ r,q.2 = 0 := fun q hq => by
    have := ih _ (List.mem_map_of_mem hq)
    rcases gm_eq0 this with h | h
    ·exact h
    ·exact absurd (List.mem_map.2 ⟨q,hq,xeq h⟩) hx
   rcases List.mem_cons.1 hq with rfl | hq
   ·have h0 := hs 0 (by omega)
    rw [ps_cons] at h0
    have hz : ∀ l : List (UInt8 × UInt8),(∀ q ∈ l,q.2 = 0) → ps l 0 = 0 := fun l => by
     induction l with
     | nil => intro _; rfl
     | cons a l ih => intro h; rw [ps_cons,h a (by simp),zero_gm,ih fun q hq => h q (by simp [hq])]; rfl
    rw [hz r hall,UInt8.xor_zero] at h0
    have : gm Y 1 = 0 := h0
    rwa [gm_one] at this
   ·exact hall q hq
def pr : List UInt8 → List (UInt8 × UInt8)
 | [] => []
 | c :: w => (al w.length,c) :: pr w
theorem ev_pr (i : Nat) : ∀ w : List UInt8,ev (al i) w = ps (pr w) i
 | [] => rfl
 | c :: w => by
   rw [ev_cons,ev_pr i w,pw_al]
   show _ = gm c (pw (al w.length) i) ^^^ _
   rw [pw_al,Nat.mul_comm]
   rfl
end Pl
namespace Pl
def trimF : List UInt8 → List UInt8
 | [] => []
 | c :: a => if c = 0 then trimF a else c :: a
theorem trim_ev (x : UInt8) : ∀ a,ev x (trimF a) = ev x a
 | [] => rfl
 | c :: a => by
   unfold trimF
   split
   ·rename_i h; rw [trim_ev x a,ev_cons,h,zero_gm,UInt8.zero_xor]
   ·rfl
theorem trim_len : ∀ a : List UInt8,(trimF a).length ≤ a.length
 | [] => Nat.le_refl _
 | c :: a => by
   unfold trimF
   split
   ·have := trim_len a; simp; omega
   ·exact Nat.le_refl _
theorem trim_head {a : List UInt8} {c : UInt8} {r : List UInt8} (h : trimF a = c :: r) : c ≠ 0 := by
 induction a with
 | nil => cases h
 | cons d a ih =>
   unfold trimF at h
   split at h
   ·exact ih h
   ·rename_i h0; cases h; exact h0
theorem trim_pre : ∀ (n : Nat) (a : List UInt8),trimF (List.replicate n 0 ++ a) = trimF a
 | 0,a => rfl
 | n + 1,a => by rw [List.replicate_succ,List.cons_append]; show (if (0 : UInt8) = 0 then trimF (List.replicate n 0 ++ a) else _) = _; rw [if_pos rfl,trim_pre n a]
def rowF (n i : Nat) (c : UInt8) (b : List UInt8) : List UInt8 := List.replicate i 0 ++ b.map (gm c) ++ List.replicate (n - i - b.length) 0
theorem row_len {n i : Nat} {b : List UInt8} (h : i + b.length ≤ n) (c : UInt8) : (rowF n i c b).length = n := by unfold rowF; simp; omega
theorem row_ev (x : UInt8) (n i : Nat) (c : UInt8) (b : List UInt8) : ev x (rowF n i c b) = gm (gm c (ev x b)) (pw x (n - i - b.length)) := by
 unfold rowF
 rw [ev_app,ev_app,ev_zeros,ev_zeros,ev_scale,zero_gm,List.length_replicate,UInt8.zero_xor,UInt8.xor_zero]
def mulF (b : List UInt8) (n : Nat) : List UInt8 → Nat → List UInt8 → List UInt8
 | [],_,out => out
 | c :: a,i,out => mulF b n a (i + 1) (xl out (rowF n i c b))
theorem xl_len {a b : List UInt8} (h : a.length = b.length) : (xl a b).length = a.length := by unfold xl; rw [List.length_zipWith,h,Nat.min_self]
theorem mul_len (b : List UInt8) (n : Nat) : ∀ (a : List UInt8) (i : Nat) (out : List UInt8),out.length = n → i + a.length + b.length ≤ n + 1 → (mulF b n a i out).length = n
 | [],_,_,h,_ => h
 | c :: a,i,out,h,hn => by
   have hn' : i + (a.length + 1) + b.length ≤ n + 1 := hn
   have hr := row_len (n := n) (i := i) (b := b) (by omega) c
   exact mul_len b n a (i + 1) _ (by rw [xl_len (by rw [h,hr]),h]) (by omega)
theorem mul_ev (x : UInt8) (b : List UInt8) (n : Nat) : ∀ (a : List UInt8) (i : Nat) (out : List UInt8),out.length = n → i + a.length + b.length = n + 1 → ev x (mulF b n a i out) = ev x out ^^^ gm (ev x a) (ev x b)
 | [],_,out,_,_ => by show ev x out = _ ^^^ gm 0 _; rw [zero_gm]; simp
 | c :: a,i,out,h,hn => by
   have hn' : i + (a.length + 1) + b.length = n + 1 := hn
   have hr := row_len (n := n) (i := i) (b := b) (by omega) c
   show ev x (mulF b n a (i + 1) _) = _
   rw [mul_ev x b n a (i + 1) _ (by rw [xl_len (by rw [h,hr]),h]) (by omega),ev_xl x _ _ (by rw [h,hr]),row_ev,ev_cons,UInt8.xor_assoc]
   congr 1
   rw [xor_gm,show n - i - b.length = a.length by omega]
   congr 1
   rw [gm_assoc,gm_assoc,gm_comm (ev x b)]
def twoF (a b : List UInt8) : List UInt8 := if trimF a = [] ∨ trimF b = [] then [] else mulF (trimF b) ((trimF a).length + (trimF b).length - 1) (trimF a) 0 (List.replicate ((trimF a).length + (trimF b).length - 1) 0)
theorem two_ev (x : UInt8) (a b : List UInt8) : ev x (twoF a b) = gm (ev x a) (ev x b) := by
 unfold twoF
 rw [← trim_ev x a,← trim_ev x b]
 split
 ·rename_i h
  rcases h with h | h
  ·rw [h]; show 0 = gm 0 _; rw [zero_gm]
  ·rw [h]; show 0 = gm _ 0; rw [gm_zero]
 ·rename_i h
  have h1 : 0 < (trimF a).length := List.length_pos_iff.2 fun e => h (.inl e)
  have h2 : 0 < (trimF b).length := List.length_pos_iff.2 fun e => h (.inr e)
  rw [mul_ev x _ _ _ _ _ (by simp) (by omega),ev_zeros,UInt8.zero_xor]
def genF (roots : List UInt8) : List UInt8 := roots.foldl (fun a r => twoF a [1,r]) [1]
theorem gen_ev (x : UInt8) : ∀ (r : List UInt8) (a : List UInt8),ev x (r.foldl (fun a r => twoF a [1,r]) a) = r.foldl (fun v r => gm v (x ^^^ r)) (ev x a)
 | [],_ => rfl
 | c :: r,a => by
   rw [List.foldl_cons,List.foldl_cons,gen_ev x r,two_ev]
   congr 2
   show (gm (gm 0 x ^^^ 1) x ^^^ c) = _
   rw [zero_gm,UInt8.zero_xor,one_gm]
theorem gen_root {x : UInt8} : ∀ (r : List UInt8) (v : UInt8),x ∈ r ∨ v = 0 → r.foldl (fun v r => gm v (x ^^^ r)) v = 0
 | [],v,h => by rcases h with h | h; cases h; exact h
 | c :: r,v,h => by
   rw [List.foldl_cons]
   refine gen_root r _ ?_
   rcases h with h | h
   ·rcases List.mem_cons.1 h with rfl | h
    ·right; rw [xself,gm_zero]
    ·exact .inl h
   ·right; rw [h,zero_gm]
def divF (b : List UInt8) (n : Nat) : Nat → Nat → List UInt8 → List UInt8
 | 0,_,rest => rest
 | k + 1,i,rest => divF b n k (i + 1) (xl rest (rowF n i (gm (rest.getD i 0) (gi (b.headD 0))) b))
theorem xl_get : ∀ (a b : List UInt8) (i : Nat),a.length = b.length → (xl a b).getD i 0 = a.getD i 0 ^^^ b.getD i 0
 | [],[],i,_ => by show (0 : UInt8) = 0 ^^^ 0; simp
 | x :: a,y :: b,0,_ => rfl
 | x :: a,y :: b,i + 1,h => xl_get a b i (by simpa using h)
theorem row_lo {n i j : Nat} (c : UInt8) (b : List UInt8) (h : j < i) : (rowF n i c b).getD j 0 = 0 := by
 unfold rowF
 rw [List.append_assoc,List.getD_eq_getElem?_getD,List.getElem?_append_left (by simpa using h),List.getElem?_replicate,if_pos h]; rfl
theorem row_at {n i : Nat} (c d : UInt8) (b : List UInt8) : (rowF n i c (d :: b)).getD i 0 = gm c d := by
 unfold rowF
 rw [List.append_assoc,List.getD_eq_getElem?_getD,List.getElem?_append_right (by simp)]
 simp
theorem div_spec {x : UInt8} {d : UInt8} {b : List UInt8} (hd : d ≠ 0) (hx : ev x (d :: b) = 0) {n : Nat} : ∀ (k i : Nat) (rest : List UInt8),rest.length = n → i + k + (b.length + 1) ≤ n + 1 → (∀ j,j < i → rest.getD j 0 = 0) →
  (divF (d :: b) n k i rest).length = n ∧ ev x (divF (d :: b) n k i rest) = ev x rest ∧ ∀ j,j < i + k → (divF (d :: b) n k i rest).getD j 0 = 0
 | 0,i,rest,h,_,hz => ⟨h,rfl,fun j hj => hz j hj⟩
 | k + 1,i,rest,h,hn,hz => by
   have hr := row_len (n := n) (i := i) (b := d :: b) (by show i + (b.length + 1) ≤ n; omega) (gm (rest.getD i 0) (gi d))
   have hl : rest.length = (rowF n i (gm (rest.getD i 0) (gi d)) (d :: b)).length := by rw [h,hr]
   obtain ⟨a1,a2,a3⟩ := div_spec hd hx k (i + 1) (xl rest (rowF n i (gm (rest.getD i 0) (gi d)) (d :: b))) (by rw [xl_len hl,h]) (by omega) fun j hj => by
    rw [xl_get _ _ _ hl]
    rcases Nat.lt_or_eq_of_le (Nat.lt_succ_iff.1 hj) with hj | rfl
    ·rw [hz j hj,row_lo _ _ hj]; rfl
    ·rw [row_at,gm_assoc,gm_comm (gi d),gm_gi hd,gm_one,xself]
   refine ⟨a1,?_,fun j hj => a3 j (by omega)⟩
   show ev x (divF (d :: b) n k (i + 1) (xl rest (rowF n i (gm (rest.getD i 0) (gi d)) (d :: b)))) = _
   rw [a2,ev_xl x _ _ hl,row_ev,hx,gm_zero,zero_gm]; simp
end Pl
namespace Pl
theorem mul_head (b : List UInt8) (d : UInt8) (n : Nat) (hn : 0 < n) : ∀ (a : List UInt8) (i : Nat) (out : List UInt8),0 < i → out.length = n → i + a.length + (d :: b).length ≤ n + 1 → (mulF (d :: b) n a i out).getD 0 0 = out.getD 0 0
 | [],_,_,_,_,_ => rfl
 | c :: a,i,out,h0,h,hl => by
   have hl' : i + (a.length + 1) + (b.length + 1) ≤ n + 1 := hl
   have hr := row_len (n := n) (i := i) (b := d :: b) (by show i + (b.length + 1) ≤ n; omega) c
   have hlen : out.length = (rowF n i c (d :: b)).length := by rw [h,hr]
   show (mulF (d :: b) n a (i + 1) _).getD 0 0 = _
   rw [mul_head b d n hn a (i + 1) _ (by omega) (by rw [xl_len hlen,h]) (by show i + 1 + a.length + (b.length + 1) ≤ n + 1; omega),xl_get _ _ _ hlen,row_lo _ _ h0,UInt8.xor_zero]
theorem two_one (a : List UInt8) (r : UInt8) : ∃ a', twoF (1 :: a) [1, r] = 1 :: a' ∧ a'.length = a.length + 1 := by
 have t1 : trimF (1 :: a) = 1 :: a := by unfold trimF; rw [if_neg (by decide)]
 have t2 : trimF [1,r] = [1,r] := by unfold trimF; rw [if_neg (by decide)]
 have hz : (List.replicate (a.length + 2) (0 : UInt8)).length = a.length + 2 := by simp
 have e : twoF (1 :: a) [1,r] = mulF [1,r] (a.length + 2) (1 :: a) 0 (List.replicate (a.length + 2) 0) := by
  unfold twoF
  rw [t1,t2,if_neg (by simp)]
  rfl
 have hlen := mul_len [1,r] (a.length + 2) (1 :: a) 0 _ hz (by show 0 + (a.length + 1) + 2 ≤ a.length + 2 + 1; omega)
 have hhead : (mulF [1,r] (a.length + 2) (1 :: a) 0 (List.replicate (a.length + 2) 0)).getD 0 0 = 1 := by
  have hr := row_len (n := a.length + 2) (i := 0) (b := [1,r]) (by show 0 + 2 ≤ a.length + 2; omega) 1
  have hl2 : (List.replicate (a.length + 2) (0 : UInt8)).length = (rowF (a.length + 2) 0 1 [1,r]).length := by rw [hz,hr]
  show (mulF [1,r] (a.length + 2) a (0 + 1) _).getD 0 0 = 1
  rw [mul_head [r] 1 _ (by omega) a (0 + 1) _ (by omega) (by rw [xl_len hl2,hz]) (by show 0 + 1 + a.length + 2 ≤ a.length + 2 + 1; omega),xl_get _ _ _ hl2,row_at]
  simp [gm_one]
 rw [← e] at hlen hhead
 cases h : twoF (1 :: a) [1,r] with
 | nil => rw [h] at hlen; simp at hlen
 | cons c a' =>
   rw [h] at hlen hhead
   have hc : c = 1 := hhead
   subst hc
   exact ⟨a', rfl, by simpa using hlen⟩
theorem gen_one (r : List UInt8) : ∃ g,genF r = 1 :: g ∧ g.length = r.length := by
 have key : ∀ (r a : List UInt8),∃ g,r.foldl (fun a r => twoF a [1,r]) (1 :: a) = 1 :: g ∧ g.length = a.length + r.length := fun r => by
  induction r with
  | nil => exact fun a => ⟨a,rfl,rfl⟩
  | cons c r ih =>
    intro a
    obtain ⟨a', h1, h2⟩ := two_one a c
    obtain ⟨g,h3,h4⟩ := ih a'
    refine ⟨g,by rw [List.foldl_cons,h1,h3],by rw [h4,h2]; simp; omega⟩
 obtain ⟨g,h1,h2⟩ := key r []
 exact ⟨g,h1,by simpa using h2⟩
def restF (g a : List UInt8) : List UInt8 := if (trimF a).length < g.length then trimF a else trimF (divF g (trimF a).length ((trimF a).length - g.length + 1) 0 (trimF a))
theorem trim_zero_pre {l : List UInt8} {k : Nat} (h : ∀ j,j < k → l.getD j 0 = 0) (hk : k ≤ l.length) : (trimF l).length ≤ l.length - k := by
 have e : l = List.replicate k 0 ++ l.drop k := by
  conv => lhs; rw [← List.take_append_drop k l]
  congr 1
  refine List.ext_getElem (by simp; omega) fun j h1 h2 => ?_
  have hj : j < k := by simpa using h2
  have := h j hj
  rw [List.getD_eq_getElem?_getD,List.getElem?_eq_getElem (by omega)] at this
  simpa using this
 rw [e,trim_pre]
 have := trim_len (l.drop k)
 simp at this ⊢
 omega
theorem rest_spec {g : List UInt8} {r : List UInt8} (hr : r ≠ []) (hg : genF r = 1 :: g) (a : List UInt8) : (restF (1 :: g) a).length ≤ g.length ∧ ∀ x ∈ r,ev x (restF (1 :: g) a) = ev x a := by
 unfold restF
 by_cases h : (trimF a).length < (1 :: g).length
 ·rw [if_pos h]
  exact ⟨by have e : (1 :: g).length = g.length + 1 := rfl; omega,fun x _ => trim_ev x a⟩
 ·rw [if_neg h]
  have e : (1 :: g).length = g.length + 1 := rfl
  have hx0 : ∀ x ∈ r,ev x (1 :: g) = 0 := fun x hx => by
   rw [← hg]; unfold genF; rw [gen_ev]
   exact gen_root r _ (.inl hx)
  refine ⟨?_,fun x hx => ?_⟩
  ·obtain ⟨x,hx⟩ := List.exists_mem_of_ne_nil r hr
   obtain ⟨h1,_,h3⟩ := div_spec (b := g) (d := 1) (by decide) (hx0 x hx) (n := (trimF a).length) ((trimF a).length - (1 :: g).length + 1) 0 (trimF a) rfl (by omega) (fun j hj => absurd hj (by omega))
   have := trim_zero_pre (l := divF (1 :: g) (trimF a).length ((trimF a).length - (1 :: g).length + 1) 0 (trimF a)) (k := (trimF a).length - (1 :: g).length + 1) (fun j hj => h3 j (by omega)) (by rw [h1]; omega)
   rw [h1] at this
   omega
  ·obtain ⟨_,h2,_⟩ := div_spec (b := g) (d := 1) (by decide) (hx0 x hx) (n := (trimF a).length) ((trimF a).length - (1 :: g).length + 1) 0 (trimF a) rfl (by omega) (fun j hj => absurd hj (by omega))
   rw [trim_ev,h2,trim_ev]
def shiftP (a : List UInt8) (n : Nat) : List UInt8 := if trimF a = [] then [] else trimF a ++ List.replicate n 0
theorem shift_ev (x : UInt8) (a : List UInt8) (n : Nat) : ev x (shiftP a n) = gm (ev x a) (pw x n) := by
 unfold shiftP
 rw [← trim_ev x a]
 split
 ·rename_i h; rw [h]; show 0 = gm 0 _; rw [zero_gm]
 ·rw [ev_app,ev_zeros,List.length_replicate,UInt8.xor_zero]
def rts (p : Nat) : List UInt8 := (List.range p).map al
def parF (p : Nat) (a : List UInt8) : List UInt8 := List.replicate (p - (restF (genF (rts p)) (shiftP a p)).length) 0 ++ restF (genF (rts p)) (shiftP a p)
theorem par_len {p : Nat} (hp : 0 < p) (a : List UInt8) : (restF (genF (rts p)) (shiftP a p)).length ≤ p ∧ (parF p a).length = p := by
 obtain ⟨g,hg,hl⟩ := gen_one (rts p)
 have hr : rts p ≠ [] := by unfold rts; simp; omega
 have h1 := (rest_spec hr hg (shiftP a p)).1
 rw [← hg] at h1
 have hl' : g.length = p := by rw [hl]; simp [rts]
 refine ⟨by omega,?_⟩
 unfold parF
 rw [List.length_append,List.length_replicate]; omega
theorem code_ok {p : Nat} (hp : 0 < p) (a : List UInt8) (i : Nat) (hi : i < p) : ev (al i) (a ++ parF p a) = 0 := by
 obtain ⟨g,hg,hl⟩ := gen_one (rts p)
 have hr : rts p ≠ [] := by unfold rts; simp; omega
 have h2 := (rest_spec hr hg (shiftP a p)).2 (al i) (by unfold rts; exact List.mem_map.2 ⟨i,List.mem_range.2 hi,rfl⟩)
 rw [← hg] at h2
 rw [ev_app,(par_len hp a).2]
 have : ev (al i) (parF p a) = gm (ev (al i) a) (pw (al i) p) := by
  unfold parF
  rw [ev_app,ev_zeros,zero_gm,UInt8.zero_xor,h2,shift_ev]
 rw [this,xself]
end Pl
def c94_0 : AC := sO [oP 6 (bK .lss 5 255)] (.seq (cT 6 .skip (.exit 0)) (.seq (.block 1 (sO [mV 7 5,mV 3 7] (sO [mV 8 3,mV 9 2,mV 10 2,mV 11 3,oP 12 (fA 0 1),oP 13 (.iAddrA 255 1 (tP 12) (tP 8)),nP (.store 1 (tP 13) (tP 10)),oP 14 (fA 255 1),oP 15 (.iAddrA 256 1 (tP 14) (tP 9)),nP (.store 1 (tP 15) (tP 11))] (sO [mV 16 2,oP 17 (.bin .and (tP 16) (.const (.int .u8 128))),mV 4 17] (sO [mV 18 2,oP 19 (.bin .shl (tP 18) (.const (.int .u64 1))),mV 2 19] (sO [mV 20 4,oP 21 (.bin .neq (tP 20) (.const (.int .u8 0)))] (cT 21 (.ops [mV 22 2,oP 23 (.bin .xor (tP 22) (.const (.int .u8 29))),mV 2 23]) .skip))))))) (.ops [oP 24 (bK .add 5 1),mV 5 24])))
def c94 : AC := sO [oP 0 (.mv (.const (.pointer none)))] (sO [oP 1 (.alloc (zl .u8 255 ++ zl .i64 256))] (sO [oP 2 (.mv (.const (.int .u8 1)))] (.seq (sO [oP 5 (.mv (kI 0))] (.block 0 (.loop c94_0))) (sO [mV 0 1] .ret))))
theorem k94 : compF Tryz.prog Tryz.f94 = some (c94,[0]) := by kernel_rfl
theorem n94 : Tryz.f94.ntmps = 25 := by kernel_rfl
def c125 : AC := sO [oP 4 (.mv (.const (.int .u8 0)))] (.seq (sO [mV 5 0,oP 6 (.eqv false .ptr (tP 5) (.const (.pointer none)))] (cT 6 (sO [oP 4 (.mv (.const (.int .u8 0)))] .ret) .skip)) (sO [mV 7 0,mV 8 1,oP 9 (bK .rem 8 255),oP 10 (bK .add 9 255),oP 11 (bK .rem 10 255),oP 12 (nC 7),oP 13 (fA 0 12),oP 14 (.iAddrA 255 1 (tP 13) (tP 11)),oP 15 (lN 14),mV 4 15] .ret))
theorem k125 : compF Tryz.prog Tryz.f125 = some (c125,[4]) := by kernel_rfl
theorem n125 : Tryz.f125.ntmps = 16 := by kernel_rfl
def c202 : AC := sO [oP 4 (.mv (kI 0)),oP 5 (.mv kF)] (.seq (sO [mV 6 0,oP 7 (.eqv false .ptr (tP 6) (.const (.pointer none))),mV 8 7,gP 9 8 false (.mv (tP 1)),gP 10 8 false (.bin .eql (tP 9) (.const (.int .u8 0))),oP 11 (pT 8 10)] (cT 11 (sO [oP 4 (.mv (kI 0)),oP 5 (.mv kF)] .ret) .skip)) (sO [mV 12 0,mV 13 1,oP 14 (nC 12),oP 15 (fA 255 14),oP 16 (.iAddrA 256 1 (tP 15) (tP 13)),oP 17 (lN 16),mV 4 17,oP 5 (.mv kT)] .ret))
theorem k202 : compF Tryz.prog Tryz.f202 = some (c202,[4,5]) := by kernel_rfl
theorem n202 : Tryz.f202.ntmps = 18 := by kernel_rfl
def c200_0 : AC := sO [oP 13 (bT .lss 12 11)] (.seq (cT 13 .skip (.exit 0)) (.seq (.block 1 (sO [oP 14 (iA 1 10 12),oP 15 (lN 14),mV 7 15] (sO [mV 17 0,mV 18 7,oP 19 (.call 202 [tP 17,tP 18]),mV 16 19,oP 20 (xR 16 0),oP 21 (xR 16 1),mV 8 20,mV 9 21] (.seq (sO [mV 22 9,oP 23 (.un .not (tP 22))] (cT 23 (sO [oP 4 (.mv (.const (.int .u8 0)))] .ret) .skip)) (.ops [mV 24 5,mV 25 8,oP 26 (bT .add 24 25),mV 5 26]))))) (.ops [oP 27 (bK .add 12 1),mV 12 27])))
def c200 : AC := sO [oP 4 (.mv (.const (.int .u8 0)))] (sO [oP 5 (.mv (kI 0))] (.seq (sO [mV 10 1,oP 11 (lS 10),oP 12 (.mv (kI 0))] (.block 0 (.loop c200_0))) (sO [mV 28 0,mV 29 5,oP 30 (.call 125 [tP 28,tP 29]),mV 4 30] .ret)))
theorem k200 : compF Tryz.prog Tryz.f200 = some (c200,[4]) := by kernel_rfl
theorem n200 : Tryz.f200.ntmps = 31 := by kernel_rfl
def c199_0 : AC := sO [oP 11 (bT .lss 10 9)] (.seq (cT 11 .skip (.exit 0)) (.seq (.block 1 (sO [oP 12 (iA 1 8 10),oP 13 (lN 12),mV 7 13] (.ops [mV 14 5,mV 15 7,oP 16 (bT .xor 14 15),mV 5 16]))) (.ops [oP 17 (bK .add 10 1),mV 10 17])))
def c199 : AC := sO [oP 4 (.mv (.const (.int .u8 0)))] (sO [oP 5 (.mv (.const (.int .u8 0)))] (.seq (sO [mV 8 1,oP 9 (lS 8),oP 10 (.mv (kI 0))] (.block 0 (.loop c199_0))) (.seq (sO [mV 18 0,oP 19 (.eqv false .ptr (tP 18) (.const (.pointer none)))] (cT 19 (sO [oP 4 (.mv (.const (.int .u8 0)))] .ret) .skip)) (sO [mV 20 5,mV 4 20] .ret))))
theorem k199 : compF Tryz.prog Tryz.f199 = some (c199,[4]) := by kernel_rfl
theorem n199 : Tryz.f199.ntmps = 21 := by kernel_rfl
def c176 : AC := sO [oP 4 (.mv (.const (.int .u8 0))),oP 5 (.mv kF)] (sO [mV 9 0,mV 10 1,oP 11 (.call 202 [tP 9,tP 10]),mV 8 11,oP 12 (xR 8 0),oP 13 (xR 8 1),mV 6 12,mV 7 13] (.seq (sO [mV 14 7,oP 15 (.un .not (tP 14))] (cT 15 (sO [oP 4 (.mv (.const (.int .u8 0))),oP 5 (.mv kF)] .ret) .skip)) (sO [mV 16 0,mV 17 6,oP 18 (.un .neg (tP 17)),oP 19 (.call 125 [tP 16,tP 18]),mV 4 19,oP 5 (.mv kT)] .ret)))
theorem k176 : compF Tryz.prog Tryz.f176 = some (c176,[4,5]) := by kernel_rfl
theorem n176 : Tryz.f176.ntmps = 20 := by kernel_rfl
def c205 : AC := sO [oP 6 (.mv (.const (.int .u8 0))),oP 7 (.mv kF)] (sO [mV 11 0,mV 12 2,oP 13 (.call 176 [tP 11,tP 12]),mV 10 13,oP 14 (xR 10 0),oP 15 (xR 10 1),mV 8 14,mV 9 15] (.seq (sO [mV 16 9,oP 17 (.un .not (tP 16))] (cT 17 (sO [oP 6 (.mv (.const (.int .u8 0))),oP 7 (.mv kF)] .ret) .skip)) (sO [mV 18 0,mV 19 1,mV 20 8,oP 21 (.buildS 2 [.int .u8 0,.int .u8 0] [(0,1,.tmp 19),(1,1,.tmp 20)]),oP 22 (.call 200 [tP 18,tP 21]),mV 6 22,oP 7 (.mv kT)] .ret)))
theorem k205 : compF Tryz.prog Tryz.f205 = some (c205,[6,7]) := by kernel_rfl
theorem n205 : Tryz.f205.ntmps = 23 := by kernel_rfl
def expK (k : Nat) : List Value := (List.range 255).map fun i => if i < k then .int .u8 ((Pl.al i).toNat : Int) else .int .u8 0
def logK (k : Nat) : List Value := (Pl.lgT k).map fun n : Nat => Value.int .i64 (n : Int)
def fldC (k : Nat) : List Value := expK k ++ logK k
theorem expK_len (k : Nat) : (expK k).length = 255 := by simp [expK]
theorem lgT_len : ∀ k,(Pl.lgT k).length = 256
 | 0 => by simp [Pl.lgT]
 | k + 1 => by simp [Pl.lgT,lgT_len k]
theorem logK_len (k : Nat) : (logK k).length = 256 := by simp [logK,lgT_len]
theorem fldC_len (k : Nat) : (fldC k).length = 511 := by simp [fldC,expK_len,logK_len]
theorem fldC_bel {n k : Nat} : ∀ x ∈ fldC k,VBelow n x := fun x hx => by
 rcases List.mem_append.1 hx with hx | hx
 ·obtain ⟨i,_,rfl⟩ := List.mem_map.1 hx
  split <;> exact .int
 ·obtain ⟨i,_,rfl⟩ := List.mem_map.1 hx
  exact .int
theorem aput_setJ (l : List Value) (k : Nat) (v : Value) (h : k < l.length) : aput l k [v] = l.set k v := by
 unfold aput
 rw [List.set_eq_take_append_cons_drop,if_pos h]
 simp
theorem fld_put1 (k : Nat) (h : k < 255) : (fldC k).set k (.int .u8 ((Pl.al k).toNat : Int)) = expK (k + 1) ++ logK k := by
 unfold fldC
 rw [List.set_append_left _ _ (by rw [expK_len]; exact h)]
 congr 1
 refine List.ext_getElem (by simp [expK]) fun i h1 h2 => ?_
 simp only [expK,List.length_set,List.length_map,List.length_range] at h1
 rw [List.getElem_set]
 simp only [expK,List.getElem_map,List.getElem_range]
 by_cases q : k = i
 ·subst q; rw [if_pos rfl,if_pos (by omega)]
 ·rw [if_neg q]
  by_cases q2 : i < k
  ·rw [if_pos q2,if_pos (by omega)]
  ·rw [if_neg q2,if_neg (by omega)]
theorem fld_put2 (k : Nat) : (expK (k + 1) ++ logK k).set (255 + (Pl.al k).toNat) (.int .i64 (k : Int)) = fldC (k + 1) := by
 rw [List.set_append_right _ _ (by rw [expK_len]; omega),expK_len,Nat.add_sub_cancel_left]
 unfold fldC
 congr 1
 show ((Pl.lgT k).map _).set _ _ = ((Pl.lgT k).set _ k).map _
 rw [List.map_set]
theorem fld_zero : (zl .u8 255 ++ zl .i64 256) = fldC 0 := by
 unfold fldC expK logK zl
 congr 1
theorem qa_u8 (b : UInt8) : (abits .and .u8 (b.toNat : Int) 128 = 0) = (b < 128) := propext (Pl.all256 (p := fun b => abits .and .u8 (b.toNat : Int) 128 = 0 ↔ b < 128) (by decide +kernel) b)
theorem qs_u8 (b : UInt8) (h : b < 128) : IntKind.u8.wrap ((b.toNat : Int) * 2 ^ min 1 IntKind.u8.bits) = ((Pl.xt b).toNat : Int) := Pl.all256 (p := fun b => b < 128 → IntKind.u8.wrap ((b.toNat : Int) * 2 ^ min 1 IntKind.u8.bits) = ((Pl.xt b).toNat : Int)) (by decide +kernel) b h
theorem qx_u8 (b : UInt8) (h : ¬ b < 128) : abits .xor .u8 (IntKind.u8.wrap ((b.toNat : Int) * 2 ^ min 1 IntKind.u8.bits)) 29 = ((Pl.xt b).toNat : Int) := Pl.all256 (p := fun b => ¬ b < 128 → abits .xor .u8 (IntKind.u8.wrap ((b.toNat : Int) * 2 ^ min 1 IntKind.u8.bits)) 29 = ((Pl.xt b).toNat : Int)) (by decide +kernel) b h
def GfK (H : Heap) (f : Nat) : Prop := H.cellsOf f = some (fldC 255,.ex,1)
theorem GfK.keep {H H' : Heap} {f : Nat} (g : GfK H f) (hk : ∀ u ob,H.m u = some ob → H'.m u = some ob) : GfK H' f := cellsOf_keep hk g
theorem gfnew_ok (h : Heap) : ACalls Tryz.prog 94 [] h fun v h' => v = .pointer (some ⟨h.n,0,none⟩) ∧ h' = h.push (.cells (fldC 255) .ex 1) := by
 refine acalls_of mix Tryz.func94 k94 n94 (by simp) fun hcl hb => ?_
 simp only [c94,s_seq,s_ops]
 simp [fld_zero]
 refine awp_loop_of (α := Nat) (fun k => k ≤ 255) (fun k => [(1,.pointer (some ⟨h.n,0,none⟩)),(2,.int .u8 ((Pl.al k).toNat : Int)),(5,.int .i64 k)]) (fun k => h.push (.cells (fldC k) .ex 1)) (fun k => 255 - k) 0
  (Nat.zero_le _) ⟨Nat.le_succ _,Nat.le_refl _,fun _ _ e => e,closed_push hcl fldC_bel⟩ (by simp; exact ⟨.ptr (by show h.n < h.n + 1; omega),⟨rfl,.int⟩,.int⟩) ?_
 intro k hk
 by_cases hlt : k < 255
 ·have hi' : (k : Int) < 255 := by omega
  have w4 := w64n (i := k) (by omega)
  have f1 := cellsOf_new h (fldC k) .ex 1
  have f2 := cellsOf_new h (expK (k + 1) ++ logK k) .ex 1
  have i2 : aidx (.int .u8 ((Pl.al k).toNat : Int)) 256 = some (Pl.al k).toNat := aidx_of (Pl.al k).toNat_lt
  have p1 : aput (fldC k) k [.int .u8 ((Pl.al k).toNat : Int)] = expK (k + 1) ++ logK k := by rw [aput_setJ _ _ _ (by rw [fldC_len]; omega),fld_put1 k hlt]
  have ha := (Pl.al k).toNat_lt
  have p2 : aput (expK (k + 1) ++ logK k) (255 + (Pl.al k).toNat) [.int .i64 (k : Int)] = fldC (k + 1) := by rw [aput_setJ _ _ _ (by rw [List.length_append,expK_len,logK_len]; omega),fld_put2 k]
  simp [c94_0, hi', aidx_of hlt, i2, f1, f2, apart, mcells, fldC_len, expK_len, logK_len, p1, p2, set_push, show k ≤ 510 by omega, show 255 + (Pl.al k).toNat ≤ 510 by omega]
  have hs : Pl.al (k + 1) = Pl.xt (Pl.al k) := rfl
  by_cases h128 : Pl.al k < 128
  ·have q1 := qs_u8 (Pl.al k) h128
   rw [← hs] at q1
   simp [qa_u8,h128,q1,w4,-Int.natCast_add]
   exact ⟨k + 1,by omega,by omega,⟨Nat.le_succ _,Nat.le_refl _,fun _ _ e => e,closed_push hcl fldC_bel⟩,.ptr (by show h.n < h.n + 1; omega),⟨rfl,.int⟩,rfl,.int⟩
  ·have q1 := qx_u8 (Pl.al k) h128
   rw [← hs] at q1
   simp [qa_u8,h128,q1,w4,-Int.natCast_add]
   exact ⟨k + 1,by omega,by omega,⟨Nat.le_succ _,Nat.le_refl _,fun _ _ e => e,closed_push hcl fldC_bel⟩,.ptr (by show h.n < h.n + 1; omega),⟨rfl,.int⟩,rfl,.int⟩
 ·have hke : k = 255 := by omega
  subst hke
  simp [c94_0]
theorem gfexp_ok (f : Nat) (n : Nat) (hn : n ≤ 1000000000000) (h : Heap) (hf : GfK h f) : ACalls Tryz.prog 125 [.pointer (some ⟨f,0,none⟩),.int .i64 (n : Int)] h fun v h' => v = .int .u8 ((Pl.al n).toNat : Int) ∧ h' = h := by
 refine acalls_of mix Tryz.func125 k125 n125 (by simp) fun hcl hb => ?_
 have hq := ptrq
 have m1 : (n : Int).tmod 255 = ((n % 255 : Nat) : Int) := rfl
 have m2 : IntKind.i64.wrap (((n % 255 : Nat) : Int) + 255) = ((n % 255 + 255 : Nat) : Int) := wI (by omega)
 have m3 : ((n % 255 + 255 : Nat) : Int).tmod 255 = ((n % 255 : Nat) : Int) := by
  show (((n % 255 + 255) % 255 : Nat) : Int) = _
  congr 1; omega
 have hlt : n % 255 < 255 := Nat.mod_lt _ (by omega)
 have hg : (fldC 255)[n % 255]? = some (.int .u8 ((Pl.al n).toNat : Int)) := by
  unfold fldC
  rw [List.getElem?_append_left (by rw [expK_len]; exact hlt)]
  unfold expK
  rw [List.getElem?_map,List.getElem?_range hlt,Option.map_some,if_pos hlt,← Pl.al_mod]
 have hf' : h.cellsOf f = some (fldC 255,.ex,1) := hf
 simp [c125, hq, m1, m2, m3, aidx_of hlt, hf', apart, hg, -Int.natCast_add, -Int.natCast_emod]
theorem gflog_ok (f : Nat) (a : UInt8) (h : Heap) (hf : GfK h f) : ACalls Tryz.prog 202 [.pointer (some ⟨f,0,none⟩),.int .u8 (a.toNat : Int)] h fun v h' => v = .tuple #[.int .i64 ((if a = 0 then 0 else Pl.lg a : Nat) : Int),.bool (decide (a ≠ 0))] ∧ h' = h := by
 refine acalls_of mix Tryz.func202 k202 n202 (by simp) fun hcl hb => ?_
 have hq := ptrq
 have hf' : h.cellsOf f = some (fldC 255,.ex,1) := hf
 by_cases h0 : a = 0
 ·subst h0
  simp [c202,hq]
 ·have h0' : ¬ ((a.toNat : Int) = 0) := fun e => h0 (UInt8.toNat_inj.1 (by show a.toNat = 0; omega))
  have hi : aidx (.int .u8 (a.toNat : Int)) 256 = some a.toNat := aidx_of a.toNat_lt
  have hg : (fldC 255)[255 + a.toNat]? = some (.int .i64 (Pl.lg a : Int)) := by
   unfold fldC
   rw [List.getElem?_append_right (by rw [expK_len]; omega),expK_len,Nat.add_sub_cancel_left]
   unfold logK Pl.lg
   have hl : a.toNat < (Pl.lgT 255).length := by rw [lgT_len]; exact a.toNat_lt
   rw [List.getElem?_map,List.getElem?_eq_getElem hl,Option.map_some,List.getD_eq_getElem?_getD,List.getElem?_eq_getElem hl]
   rfl
  have h0n : ¬ a.toNat = 0 := fun e => h0' (by omega)
  simp [c202, hq, h0, h0', h0n, hi, hf', apart, hg]
def slg (l : List UInt8) : Nat := (l.map Pl.lg).sum
theorem lg_lt (a : UInt8) : Pl.lg a < 256 := by
 by_cases h : a = 0
 ·subst h; decide
 ·have := (Pl.lg_spec h).1; omega
theorem slg_le : ∀ l : List UInt8,slg l ≤ 255 * l.length
 | [] => Nat.le_refl _
 | a :: l => by have := slg_le l; have := lg_lt a; unfold slg at *; simp; omega
theorem slg_take (l : List UInt8) (i : Nat) (h : i < l.length) : slg (l.take (i + 1)) = slg (l.take i) + Pl.lg l[i] := by
 unfold slg
 rw [List.take_succ_eq_append_getElem h,List.map_append,List.sum_append]
 simp
def mulL (l : List UInt8) : UInt8 := if (0 : UInt8) ∈ l then 0 else Pl.al (slg l)
theorem mulL_two (a b : UInt8) : mulL [a,b] = Pl.gm a b := by
 unfold mulL Pl.gm slg
 simp [eq_comm]
theorem gfmul_ok (f : Nat) (l : List UInt8) (v : Value) (h : Heap) (hf : GfK h f) (hl : SlB h v l) (hn : l.length ≤ 1000000) : ACalls Tryz.prog 200 [.pointer (some ⟨f,0,none⟩),v] h fun r h' => r = .int .u8 ((mulL l).toNat : Int) ∧ h' = h := by
 refine acalls_of mix Tryz.func200 k200 n200 (by simp) fun hcl hb => ?_
 have bl := Sl.below hl hcl
 have bf := cellsOf_lt hcl hf
 obtain ⟨a,c,rfl⟩ := Sl.form hl
 simp [c200]
 refine awp_loop_of (α := Nat) (fun i => i ≤ l.length ∧ (0 : UInt8) ∉ l.take i) (fun i => [(0,.pointer (some ⟨f,0,none⟩)),(5,.int .i64 ((slg (l.take i) : Nat) : Int)),(10,.slice a l.length c),(11,.int .i64 l.length),(12,.int .i64 i)]) (fun _ => h) (fun i => l.length - i) 0
  ⟨Nat.zero_le _,by simp⟩ (Heap.Sub.refl hcl) (by simp; exact ⟨.ptr bf,⟨rfl,.int⟩,bl,.int,.int⟩) ?_
 rintro i ⟨hil,hno⟩
 have hsl := slg_le (l.take i)
 have htl : (l.take i).length ≤ l.length := by rw [List.length_take]; omega
 by_cases hlt : i < l.length
 ·have hi' : (i : Int) < (l.length : Int) := by omega
  have w4 := w64n (i := i) (by omega)
  obtain ⟨b1,o1,cs1,m1,e1,rfl,_,g1,g1'⟩ := Sl.at hl hlt
  obtain ⟨x,hx⟩ : ∃ x,l[i] = x := ⟨_,rfl⟩
  rw [hx] at g1'
  have he : eb x = .int .u8 (x.toNat : Int) := rfl
  rw [he] at g1'
  have hsu := slg_take l i hlt
  rw [hx] at hsu
  simp [c200_0, hi', aidx_of hlt, g1, apart, g1', -Int.natCast_add]
  refine (gflog_ok f x h hf).eqK ?_
  by_cases h0 : x = 0
  ·have hm : mulL l = 0 := if_pos (by rw [← h0,← hx]; exact List.getElem_mem hlt)
   simp [h0,hm,aun]
  ·have w5 : IntKind.i64.wrap (((slg (l.take i) : Nat) : Int) + (Pl.lg x : Int)) = ((slg (l.take (i + 1)) : Nat) : Int) := by
    have := lg_lt x
    rw [IntWalk.i64_in _ (by omega),hsu]; omega
   simp [h0,aun,w4,w5,-Int.natCast_add]
   refine ⟨i + 1,by omega,⟨by omega,?_⟩,Heap.Sub.refl hcl,.ptr bf,⟨rfl,.int⟩,bl,.int,rfl,.int⟩
   rw [List.take_succ_eq_append_getElem hlt,hx]
   intro q
   rcases List.mem_append.1 q with q | q
   ·exact hno q
   ·exact h0 (List.mem_singleton.1 q).symm
 ·have hie : i = l.length := by omega
  subst hie
  rw [List.take_of_length_le (Nat.le_refl _)] at hno hsl ⊢
  have hm : mulL l = Pl.al (slg l) := if_neg hno
  simp [c200_0]
  refine (gfexp_ok f (slg l) (by omega) h hf).eqK ?_
  simp [hm]
def xorL (l : List UInt8) : UInt8 := l.foldl (· ^^^ ·) 0
theorem xorL_take (l : List UInt8) (i : Nat) (h : i < l.length) : xorL (l.take (i + 1)) = xorL (l.take i) ^^^ l[i] := by
 unfold xorL
 rw [List.take_succ_eq_append_getElem h,List.foldl_append]; rfl
theorem u8_xor (a b : UInt8) : abits .xor .u8 (a.toNat : Int) (b.toNat : Int) = ((a ^^^ b).toNat : Int) := by
 have e : ∀ x : UInt8,BitVec.ofInt 8 (x.toNat : Int) = x.toBitVec := fun x => by
  apply BitVec.eq_of_toNat_eq
  rw [BitVec.toNat_ofInt]
  have := x.toNat_lt
  show ((x.toNat : Int) % 256).toNat = x.toNat
  omega
 show IntKind.u8.wrap (((BitVec.ofInt 8 (a.toNat : Int)) ^^^ (BitVec.ofInt 8 (b.toNat : Int))).toNat : Int) = _
 rw [e,e,← UInt8.toBitVec_xor]
 have hw : ∀ n : Nat,n < 256 → IntKind.u8.wrap (n : Int) = n := fun n h => by simp [IntKind.wrap,IntKind.bits,IntKind.signed]; omega
 exact hw _ (a ^^^ b).toNat_lt
theorem gfadd_ok (f : Nat) (l : List UInt8) (v : Value) (h : Heap) (hf : f < h.n) (hl : SlB h v l) (hn : l.length ≤ 1000000) : ACalls Tryz.prog 199 [.pointer (some ⟨f,0,none⟩),v] h fun r h' => r = .int .u8 ((xorL l).toNat : Int) ∧ h' = h := by
 refine acalls_of mix Tryz.func199 k199 n199 (by simp) fun hcl hb => ?_
 have bl := Sl.below hl hcl
 have hq := ptrq
 obtain ⟨a,c,rfl⟩ := Sl.form hl
 simp [c199]
 refine awp_loop_of (α := Nat) (fun i => i ≤ l.length) (fun i => [(0,.pointer (some ⟨f,0,none⟩)),(5,.int .u8 ((xorL (l.take i)).toNat : Int)),(8,.slice a l.length c),(9,.int .i64 l.length),(10,.int .i64 i)]) (fun _ => h) (fun i => l.length - i) 0
  (Nat.zero_le _) (Heap.Sub.refl hcl) (by simp; exact ⟨.ptr hf,⟨rfl,.int⟩,bl,.int,.int⟩) ?_
 intro i hil
 by_cases hlt : i < l.length
 ·have hi' : (i : Int) < (l.length : Int) := by omega
  have w4 := w64n (i := i) (by omega)
  obtain ⟨b1,o1,cs1,m1,e1,rfl,_,g1,g1'⟩ := Sl.at hl hlt
  have he : eb l[i] = .int .u8 (l[i].toNat : Int) := rfl
  rw [he] at g1'
  have hx := u8_xor (xorL (l.take i)) l[i]
  rw [← xorL_take l i hlt] at hx
  simp [c199_0, hi', aidx_of hlt, g1, apart, g1', hx, w4, -Int.natCast_add]
  exact ⟨i + 1,by omega,by omega,Heap.Sub.refl hcl,.ptr hf,⟨rfl,.int⟩,bl,.int,rfl,.int⟩
 ·have hie : i = l.length := by omega
  subst hie
  rw [List.take_of_length_le (Nat.le_refl _)]
  simp [c199_0,hq]
theorem gfexpn_ok (f : Nat) (k : Nat) (hk : k < 255) (h : Heap) (hf : GfK h f) : ACalls Tryz.prog 125 [.pointer (some ⟨f,0,none⟩),.int .i64 (-(k : Int))] h fun v h' => v = .int .u8 ((Pl.al (255 - k)).toNat : Int) ∧ h' = h := by
 refine acalls_of mix Tryz.func125 k125 n125 (by simp) fun hcl hb => ?_
 have hq := ptrq
 have m1 : (-(k : Int)).tmod 255 = -(k : Int) := by rw [Int.neg_tmod]; congr 1; exact Int.tmod_eq_of_lt (by omega) (by omega)
 have m2 : IntKind.i64.wrap (-(k : Int) + 255) = ((255 - k : Nat) : Int) := wI (by omega)
 have m3 : ((255 - k : Nat) : Int).tmod 255 = (((255 - k) % 255 : Nat) : Int) := rfl
 have hlt : (255 - k) % 255 < 255 := Nat.mod_lt _ (by omega)
 have hg : (fldC 255)[(255 - k) % 255]? = some (.int .u8 ((Pl.al (255 - k)).toNat : Int)) := by
  unfold fldC
  rw [List.getElem?_append_left (by rw [expK_len]; exact hlt)]
  unfold expK
  rw [List.getElem?_map,List.getElem?_range hlt,Option.map_some,if_pos hlt,← Pl.al_mod]
 have hf' : h.cellsOf f = some (fldC 255,.ex,1) := hf
 simp [c125, hq, m1, m2, m3, aidx_of hlt, hf', apart, hg, -Int.natCast_add, -Int.natCast_emod, -Int.neg_tmod]
theorem gfinv_ok (f : Nat) (a : UInt8) (ha : a ≠ 0) (h : Heap) (hf : GfK h f) : ACalls Tryz.prog 176 [.pointer (some ⟨f,0,none⟩),.int .u8 (a.toNat : Int)] h fun v h' => v = .tuple #[.int .u8 ((Pl.gi a).toNat : Int),.bool true] ∧ h' = h := by
 refine acalls_of mix Tryz.func176 k176 n176 (by simp) fun hcl hb => ?_
 simp [c176]
 refine (gflog_ok f a h hf).eqK ?_
 simp [ha,aun]
 have hl := (Pl.lg_spec ha).1
 have w1 : IntKind.i64.wrap (-(Pl.lg a : Int)) = -(Pl.lg a : Int) := IntWalk.i64_in _ (by omega)
 rw [w1]
 refine (gfexpn_ok f (Pl.lg a) hl h hf).eqK ?_
 simp
 rfl
theorem slb_new {h : Heap} (l : List UInt8) : SlB (h.push (.cells (l.map eb) .ex 1)) (.slice (some ⟨h.n,0,none⟩) l.length l.length) l :=
 .inr ⟨h.n,0,_,l.map eb,.ex,1,rfl,cellsOf_new _ _ _ _,Nat.le_refl _,fun _ => by simp,fun i hi => by simp [hi]⟩
theorem gfmul2_ok (f : Nat) (a b : UInt8) (h : Heap) (hcl : h.Closed) (hf : GfK h f) : ACalls Tryz.prog 200 [.pointer (some ⟨f,0,none⟩),.slice (some ⟨h.n,0,none⟩) 2 2] (h.push (.cells [.int .u8 (a.toNat : Int),.int .u8 (b.toNat : Int)] .ex 1)) fun r h' => r = .int .u8 ((Pl.gm a b).toNat : Int) ∧ h' = h.push (.cells [.int .u8 (a.toNat : Int),.int .u8 (b.toNat : Int)] .ex 1) := by
 have hk : ∀ u ob,h.m u = some ob → (h.push (.cells ([a,b].map eb) .ex 1)).m u = some ob := fun u ob e => by rw [push_m,if_neg (by have := (hcl u ob e).1; omega)]; exact e
 have := gfmul_ok f [a,b] _ _ (hf.keep hk) (slb_new (h := h) [a,b]) (by simp)
 rw [mulL_two] at this
 exact this
theorem fil2 (x y : Int) : afill [.int .u8 0,.int .u8 0] [(0,1,.int .u8 x),(1,1,.int .u8 y)] = some [.int .u8 x,.int .u8 y] := rfl
theorem gfadd2_ok (f : Nat) (a b : UInt8) (h : Heap) (hf : f < h.n) : ACalls Tryz.prog 199 [.pointer (some ⟨f,0,none⟩),.slice (some ⟨h.n,0,none⟩) 2 2] (h.push (.cells [.int .u8 (a.toNat : Int),.int .u8 (b.toNat : Int)] .ex 1)) fun r h' => r = .int .u8 ((a ^^^ b).toNat : Int) ∧ h' = h.push (.cells [.int .u8 (a.toNat : Int),.int .u8 (b.toNat : Int)] .ex 1) := by
 have := gfadd_ok f [a,b] _ _ (show f < (h.push (.cells ([a,b].map eb) .ex 1)).n by show f < h.n + 1; omega) (slb_new (h := h) [a,b]) (by simp)
 have e : xorL [a,b] = a ^^^ b := by show (0 ^^^ a) ^^^ b = _; rw [UInt8.zero_xor]
 rw [e] at this
 exact this
theorem gfdiv_ok (f : Nat) (a b : UInt8) (hb0 : b ≠ 0) (h : Heap) (hf : GfK h f) : ACalls Tryz.prog 205 [.pointer (some ⟨f,0,none⟩),.int .u8 (a.toNat : Int),.int .u8 (b.toNat : Int)] h fun v h' => v = .tuple #[.int .u8 ((Pl.gm a (Pl.gi b)).toNat : Int),.bool true] ∧ h' = h := by
 refine ACalls.same (.tuple fun i hi => by match i,hi with | 0,_ => exact .int | 1,_ => exact .bool) (acalls_of mix Tryz.func205 k205 n205 (by simp) fun hcl hb => ?_)
 simp [c205]
 refine (gfinv_ok f b hb0 h hf).eqK ?_
 simp [aun,fil2]
 refine (gfmul2_ok f a (Pl.gi b) h hcl hf).eqK ?_
 simp
 exact (Heap.Ext.refl h).push hcl _
def c169 : AC := sO [oP 2 (.mv (.const (.slice none 0 0)))] (.seq (sO [mV 3 0,oP 4 (.eqv false .slc (tP 3) (.const (.slice none 0 0)))] (cT 4 (sO [oP 2 (.mv (.const (.slice none 0 0)))] .ret) .skip)) (sO [oP 5 (.buildS 0 [] []),mV 6 0,oP 7 (.app 1 1 5 (tP 5) (tP 6)),mV 2 7] .ret))
theorem k169 : compF Tryz.prog Tryz.f169 = some (c169,[2]) := by kernel_rfl
theorem n169 : Tryz.f169.ntmps = 8 := by kernel_rfl
def c204 : AC := sO [oP 2 (.mv (.const (.slice none 0 0)))] (sO [mV 4 0,oP 5 (.call 209 [tP 4,.func 212]),mV 3 5] (.seq (sO [mV 6 3,oP 7 (bK .lss 6 0)] (cT 7 (sO [oP 2 (.mv (.const (.slice none 0 0)))] .ret) .skip)) (sO [mV 8 0,mV 9 3,oP 10 (.slV 1 (tP 8) (some (tP 9)) none none),oP 11 (.call 169 [tP 10]),mV 2 11] .ret)))
theorem k204 : compF Tryz.prog Tryz.f204 = some (c204,[2]) := by kernel_rfl
theorem n204 : Tryz.f204.ntmps = 12 := by kernel_rfl
def c209_0 : AC := sO [oP 9 (bT .lss 8 7)] (.seq (cT 9 .skip (.exit 0)) (.seq (.block 1 (sO [mV 10 8,mV 5 10] (sO [mV 11 1,mV 12 0,mV 13 5,oP 14 (iA 1 12 13),oP 15 (lN 14),oP 16 (.callv (tP 11) [tP 15])] (cT 16 (sO [mV 17 5,mV 4 17] .ret) .skip)))) (.ops [oP 18 (bK .add 8 1),mV 8 18])))
def c209 : AC := sO [oP 4 (.mv (kI 0))] (.seq (sO [mV 6 0,oP 7 (lS 6),oP 8 (.mv (kI 0))] (.block 0 (.loop c209_0))) (sO [oP 4 (.mv (.const (.int .i64 (-1))))] .ret))
theorem k209 : compF Tryz.prog Tryz.f209 = some (c209,[4]) := by kernel_rfl
theorem n209 : Tryz.f209.ntmps = 19 := by kernel_rfl
def c212 : AC := sO [oP 2 (.mv kF)] (sO [mV 3 0,oP 4 (.bin .neq (tP 3) (.const (.int .u8 0))),mV 2 4] .ret)
theorem k212 : compF Tryz.prog Tryz.f212 = some (c212,[2]) := by kernel_rfl
theorem n212 : Tryz.f212.ntmps = 5 := by kernel_rfl
def c187_0 : AC := sO [oP 13 (bT .lss 12 11)] (.seq (cT 13 .skip (.exit 0)) (.seq (.block 1 (sO [oP 14 (iA 1 10 12),oP 15 (lN 14),mV 9 15] (.ops [mV 16 0,mV 17 0,mV 18 7,mV 19 2,oP 20 (.buildS 2 [.int .u8 0,.int .u8 0] [(0,1,.tmp 18),(1,1,.tmp 19)]),oP 21 (.call 200 [tP 17,tP 20]),mV 22 9,oP 23 (.buildS 2 [.int .u8 0,.int .u8 0] [(0,1,.tmp 21),(1,1,.tmp 22)]),oP 24 (.call 199 [tP 16,tP 23]),mV 7 24]))) (.ops [oP 25 (bK .add 12 1),mV 12 25])))
def c187 : AC := sO [oP 6 (.mv (.const (.int .u8 0)))] (sO [oP 7 (.mv (.const (.int .u8 0)))] (.seq (sO [mV 10 1,oP 11 (lS 10),oP 12 (.mv (kI 0))] (.block 0 (.loop c187_0))) (sO [mV 26 7,mV 6 26] .ret)))
theorem k187 : compF Tryz.prog Tryz.f187 = some (c187,[6]) := by kernel_rfl
theorem n187 : Tryz.f187.ntmps = 27 := by kernel_rfl
def NewB (h H : Heap) (v : Value) (l : List UInt8) : Prop := ∃ nm,LAt H 1 nm v l.length (ubs l) ∧ (∀ x,nm = some x → h.n ≤ x) ∧ Gr h H
theorem NewB.sl {h H : Heap} {v : Value} {l : List UInt8} (n : NewB h H v l) : SlB H v l := by obtain ⟨nm,q,_⟩ := n; exact q.sl
theorem NewB.gr {h H : Heap} {v : Value} {l : List UInt8} (n : NewB h H v l) : Gr h H := by obtain ⟨nm,_,_,g⟩ := n; exact g
theorem NewB.nil {h : Heap} (hc : h.Closed) : NewB h h (.slice none 0 0) [] := ⟨none,.inl ⟨rfl,rfl,rfl,rfl⟩,fun _ e => (by cases e),⟨Nat.le_refl _,hc,fun _ _ e => e⟩⟩
theorem _root_.Go.Proofs.YtdnmkenamgfjoaaGreat.lin1.Gr.trans {a b c : Heap} (g : Gr a b) (k : Gr b c) : Gr a c := ⟨Nat.le_trans g.n k.n,k.cl,fun y ob e => k.m y ob (g.m y ob e)⟩
theorem _root_.Go.Proofs.YtdnmkenamgfjoaaGreat.lin1.Gr.refl {h : Heap} (hc : h.Closed) : Gr h h := ⟨Nat.le_refl _,hc,fun _ _ e => e⟩
theorem sl_firstJ {α : Type} {enc : α → Value} {h : Heap} {v : Value} {l : List α} (s : Sl enc h v l) (hl : 0 < l.length) : afirst h 1 l.length v = some (l.map enc) := by
 rcases s with ⟨c,rfl,rfl⟩ | ⟨b,o,cap,c,m,e,rfl,h2,h3,h4,h5⟩
 ·rfl
 ·simp only [afirst,h2,if_true,Nat.mul_one]
  unfold acut
  rw [if_pos (h4 hl)]
  congr 1
  refine List.ext_getElem? fun i => ?_
  by_cases hi : i < l.length
  ·rw [List.getElem?_take,if_pos hi,List.getElem?_drop,h5 i hi]
   simp [hi]
  ·rw [List.getElem?_eq_none (by rw [List.length_take]; omega),List.getElem?_eq_none (by simp; omega)]
theorem clone_okJ (l : List UInt8) (hl0 : l ≠ []) (v : Value) (h : Heap) (hl : SlB h v l) (hn : l.length ≤ 1000000) : ACalls Tryz.prog 169 [v] h fun r h' => NewB h h' r l := by
 refine acalls_of mix Tryz.func169 k169 n169 (by simp) fun hcl hb => ?_
 have hpos : 0 < l.length := List.length_pos_iff.2 hl0
 obtain ⟨b,o,cap,c,m,e,rfl,hx,hle,hcap,hget⟩ : ∃ b o cap c m e,v = .slice (some ⟨b,o,none⟩) l.length cap ∧ h.cellsOf b = some (c,m,e) ∧ l.length ≤ cap ∧ (0 < l.length → o + l.length ≤ c.length) ∧ ∀ i (hi : i < l.length),c[o + i]? = some (eb l[i]) := by
  rcases hl with ⟨c,_,rfl⟩ | hl
  ·exact absurd rfl hl0
  ·exact hl
 have hq : aeq .slc (.slice (some ⟨b,o,none⟩) l.length cap) (.slice none 0 0) = some false := rfl
 have hfil : afill [] [] = some [] := rfl
 have c1 : (h.push (.cells [] .ex 1)).Closed := closed_push hcl (fun x hx => by cases hx)
 have k1 : ∀ u ob,h.m u = some ob → (h.push (.cells [] .ex 1)).m u = some ob := fun u ob e => by rw [push_m,if_neg (by have := (hcl u ob e).1; omega)]; exact e
 have hfst := sl_firstJ (Sl.keep hl k1) hpos
 obtain ⟨a,ha,v2,H2,happ,l2,keep2,n2,c3⟩ := lat_app (t := 5) (bytes := 1) (k := l.length) (new := ubs l) c1 (LAt.made h 1) hpos (by rw [ubs_len,Nat.mul_one]) (fun x hx => ubs_bel x hx) (by omega)
 cases ha
 have hfst2 : afirst (h.push (.cells [] .ex 1)) 1 l.length (.slice (some ⟨b,o,none⟩) l.length cap) = some (ubs l) := hfst
 rw [Nat.zero_add,List.nil_append] at l2
 simp [c169,hq,hfil,alen,hfst2,happ]
 exact ⟨_,l2,fun x e => by cases e; show h.n ≤ h.n + 1; omega,⟨by rw [n2]; show h.n ≤ h.n + 1 + 1; omega,c3,fun y ob e => keep2 y ob (k1 y ob e) (fun q => by cases q; have := (hcl _ ob e).1; omega)⟩⟩
theorem ne0_ok (b : UInt8) (h : Heap) : ACalls Tryz.prog 212 [.int .u8 (b.toNat : Int)] h fun v h' => v = .bool (decide (b ≠ 0)) ∧ h' = h := by
 refine acalls_of mix Tryz.func212 k212 n212 (by simp) fun hcl hb => ?_
 by_cases h0 : b = 0
 ·subst h0
  simp [c212]
 ·have h1 : ¬ b.toNat = 0 := fun e => h0 (UInt8.toNat_inj.1 e)
  simp [c212,h0,h1]
theorem okNe0 : callOk Tryz.prog 212 = true := by kernel_rfl
def fnz (l : List UInt8) : Option Nat := l.findIdx? fun b => decide (b ≠ 0)
theorem fnz_some {l : List UInt8} {i : Nat} (hi : i < l.length) (h1 : l[i] ≠ 0) (h : ∀ j (hj : j < l.length),j < i → l[j] = 0) : fnz l = some i := by
 unfold fnz
 rw [List.findIdx?_eq_some_iff_getElem]
 exact ⟨hi,by simpa using h1,fun j hj => by simpa using h j (by omega) hj⟩
theorem fnz_none {l : List UInt8} (h : ∀ j (hj : j < l.length),l[j] = 0) : fnz l = none := by
 unfold fnz
 rw [List.findIdx?_eq_none_iff]
 intro x hx
 obtain ⟨j,hj,rfl⟩ := List.mem_iff_getElem.1 hx
 simpa using h j hj
theorem fnz_trim : ∀ l : List UInt8,Pl.trimF l = match fnz l with | some i => l.drop i | none => []
 | [] => rfl
 | c :: l => by
   have ih := fnz_trim l
   unfold Pl.trimF
   by_cases h : c = 0
   ·rw [if_pos h,ih]
    unfold fnz
    rw [List.findIdx?_cons,if_neg (by simp [h])]
    cases l.findIdx? fun b => decide (b ≠ 0) with
    | none => rfl
    | some i => rfl
   ·rw [if_neg h]
    unfold fnz
    rw [List.findIdx?_cons,if_pos (by simp [h])]
    rfl
theorem fnz_lt {l : List UInt8} {i : Nat} (h : fnz l = some i) : i < l.length := by
 unfold fnz at h
 rw [List.findIdx?_eq_some_iff_getElem] at h
 exact h.1
def fnzI (l : List UInt8) : Int := match fnz l with | some i => (i : Int) | none => -1
theorem ixnzG_ok (g : Nat) (okg : callOk Tryz.prog g = true) (hg : ∀ (x : UInt8) (H : Heap),ACalls Tryz.prog g [.int .u8 (x.toNat : Int)] H fun r h' => r = .bool (decide (x ≠ 0)) ∧ h' = H) (l : List UInt8) (v : Value) (h : Heap) (hl : SlB h v l) (hn : l.length ≤ 1000000) :
  ACalls Tryz.prog 209 [v,.func (.func g) #[] #[]] h fun r h' => r = .int .i64 (fnzI l) ∧ h' = h := by
 refine acalls_of mix Tryz.func209 k209 n209 (by simp) fun hcl hb => ?_
 have bl := Sl.below hl hcl
 have bF : VBelow h.n (.func (.func g) #[] #[]) := hb _ (by simp)
 obtain ⟨a,c,rfl⟩ := Sl.form hl
 simp [c209]
 refine awp_loop_of (α := Nat) (fun i => i ≤ l.length ∧ ∀ j (hj : j < l.length),j < i → l[j] = 0) (fun i => [(0,.slice a l.length c),(1,.func (.func g) #[] #[]),(7,.int .i64 l.length),(8,.int .i64 i)]) (fun _ => h) (fun i => l.length - i) 0
  ⟨Nat.zero_le _,fun _ _ k => absurd k (by omega)⟩ (Heap.Sub.refl hcl) (by simp; exact ⟨bl,bF,.int,.int⟩) ?_
 rintro i ⟨hil,hany⟩
 by_cases hlt : i < l.length
 ·have hi' : (i : Int) < (l.length : Int) := by omega
  have w4 := w64n (i := i) (by omega)
  obtain ⟨b1,o1,cs1,m1,e1,rfl,_,g1,g1'⟩ := Sl.at hl hlt
  obtain ⟨x,hx⟩ : ∃ x,l[i] = x := ⟨_,rfl⟩
  rw [hx] at g1'
  have he : eb x = .int .u8 (x.toNat : Int) := rfl
  rw [he] at g1'
  simp [c209_0, hi', aidx_of hlt, g1, apart, g1', okg, -Int.natCast_add]
  refine (hg x _).mono ?_
  rintro v1 h1 ⟨rfl,e⟩
  rw [e]; clear e h1
  by_cases h0 : x = 0
  ·simp [h0,w4,-Int.natCast_add]
   refine ⟨i + 1,by omega,⟨by omega,fun j hj hji => ?_⟩,Heap.Sub.refl hcl,bl,bF,.int,rfl,.int⟩
   rcases Nat.lt_or_eq_of_le (Nat.lt_succ_iff.1 hji) with k | rfl
   ·exact hany j hj k
   ·rw [hx]; exact h0
  ·have hf := fnz_some hlt (by rw [hx]; exact h0) hany
   have hI : fnzI l = (i : Int) := by unfold fnzI; rw [hf]
   simp [h0,hI]
 ·have hie : i = l.length := by omega
  subst hie
  have hf := fnz_none fun j hj => hany j hj hj
  have hI : fnzI l = -1 := by unfold fnzI; rw [hf]
  simp [c209_0,hI]
theorem ixnz_ok (l : List UInt8) (v : Value) (h : Heap) (hl : SlB h v l) (hn : l.length ≤ 1000000) :
  ACalls Tryz.prog 209 [v,.func (.func 212) #[] #[]] h fun r h' => r = .int .i64 (fnzI l) ∧ h' = h := ixnzG_ok _ okNe0 (fun x H => ne0_ok x H) l v h hl hn
theorem slb_drop {h : Heap} {b o n cap : Nat} {l : List UInt8} (hl : SlB h (.slice (some ⟨b,o,none⟩) n cap) l) {i : Nat} (hi : i < l.length) : ∃ c m e,h.cellsOf b = some (c,m,e) ∧ n = l.length ∧ n ≤ cap ∧ SlB h (.slice (some ⟨b,o + i,none⟩) (n - i) (cap - i)) (l.drop i) := by
 rcases hl with ⟨c, q, rfl⟩ | ⟨b', o', cap', c, m, e, q, hx, hle, hcap, hget⟩
 ·cases q
 ·cases q
  refine ⟨c,m,e,hx,rfl,hle,.inr ⟨b,o + i,cap - i,c,m,e,by rw [List.length_drop],hx,by rw [List.length_drop]; omega,fun _ => by rw [List.length_drop]; have := hcap (by omega); omega,fun j hj => ?_⟩⟩
  rw [List.length_drop] at hj
  have := hget (i + j) (by omega)
  rw [List.getElem_drop,Nat.add_assoc]
  exact this
def Cut1 (h : Heap) (v : Value) : Prop := ∀ b o n c cs m e,v = .slice (some ⟨b,o,none⟩) n c → h.cellsOf b = some (cs,m,e) → (m.isLoose = true → e = 1)
theorem trim_okJ (l : List UInt8) (v : Value) (h : Heap) (hl : SlB h v l) (hC : Cut1 h v) (hn : l.length ≤ 1000000) : ACalls Tryz.prog 204 [v] h fun r h' => NewB h h' r (Pl.trimF l) := by
 refine acalls_of mix Tryz.func204 k204 n204 (by simp) fun hcl hb => ?_
 have ht := fnz_trim l
 simp [c204]
 refine (ixnz_ok l v h hl hn).eqK ?_
 cases hf : fnz l with
 | none =>
   have hI : fnzI l = -1 := by unfold fnzI; rw [hf]
   rw [hf] at ht
   rw [hI,ht]
   simp
   exact NewB.nil hcl
 | some i =>
   have hI : fnzI l = (i : Int) := by unfold fnzI; rw [hf]
   rw [hf] at ht
   dsimp only at ht
   have hi := fnz_lt hf
   rw [hI,ht]
   have hq : ¬ ((i : Int) < 0) := by omega
   obtain ⟨b,o,cap,rfl⟩ : ∃ b o cap,v = .slice (some ⟨b,o,none⟩) l.length cap := by
    rcases hl with ⟨c,_,rfl⟩ | ⟨b,o,cap,c,m,e,rfl,_⟩
    ·simp at hi
    ·exact ⟨b,o,cap,rfl⟩
   obtain ⟨c,m,e,hx,_,hcap,hd⟩ := slb_drop hl hi
   have hlo : (m.isLoose = true → e = 1) = True := eq_true (hC _ _ _ _ _ _ _ rfl hx)
   have b1 : abounds l.length cap (some (.int .i64 (i : Int))) none none = some (i,l.length,cap) := abounds_lo (by omega) hcap
   simp [hq,b1,hx,hlo]
   exact clone_okJ (l.drop i) (by intro q; have := congrArg List.length q; rw [List.length_drop] at this; simp at this; omega) _ h hd (by rw [List.length_drop]; omega) |>.mono fun v' h' q => by
    simp
    exact q
def c182_2 : AC := sO [oP 41 (bT .lss 40 39)] (.seq (cT 41 .skip (.exit 2)) (.seq (.block 3 (sO [mV 42 40,oP 43 (iA 1 38 40),oP 44 (lN 43),mV 10 42,mV 11 44] (.draw [([mV 45 7,mV 46 8,mV 47 10,oP 48 (bT .add 46 47),mV 49 0,mV 50 7,mV 51 8,mV 52 10,oP 53 (bT .add 51 52),oP 54 (iA 1 50 53),oP 55 (lN 54),mV 56 0,mV 57 9,mV 58 11],[oP 59 (.buildS 2 [.int .u8 0,.int .u8 0] [(0,1,.tmp 57),(1,1,.tmp 58)])],[oP 55 (lN 54)]),([],[oP 60 (.call 200 [tP 56,tP 59])],[oP 55 (lN 54)]),([],[oP 61 (.buildS 2 [.int .u8 0,.int .u8 0] [(0,1,.tmp 55),(1,1,.tmp 60)])],[]),([],[oP 62 (.call 199 [tP 49,tP 61])],[]),([oP 63 (iA 1 45 48)],[nP (.store 1 (tP 63) (tP 62))],[]),([],[],[])]))) (.ops [oP 64 (bK .add 40 1),mV 40 64])))
def c182_0 : AC := sO [oP 34 (bT .lss 33 32)] (.seq (cT 34 .skip (.exit 0)) (.seq (.block 1 (sO [mV 35 33,oP 36 (iA 1 31 33),oP 37 (lN 36),mV 8 35,mV 9 37] (sO [mV 38 2,oP 39 (lS 38),oP 40 (.mv (kI 0))] (.block 2 (.loop c182_2))))) (.ops [oP 65 (bK .add 33 1),mV 33 65])))
def c182 : AC := sO [oP 6 (.mv (.const (.slice none 0 0)))] (sO [mV 12 1,oP 13 (.call 204 [tP 12]),mV 14 2,oP 15 (.call 204 [tP 14]),mV 1 13,mV 2 15] (.seq (sO [mV 16 1,oP 17 (lS 16),oP 18 (bK .eql 17 0),mV 19 18,gP 20 19 false (.mv (tP 2)),gP 21 19 false (lS 20),gP 22 19 false (bK .eql 21 0),oP 23 (pT 19 22)] (cT 23 (sO [oP 6 (.mv (.const (.slice none 0 0)))] .ret) .skip)) (sO [mV 24 1,oP 25 (lS 24),mV 26 2,oP 27 (lS 26),oP 28 (bT .add 25 27),oP 29 (bK .sub 28 1),oP 30 (.mkSlT 5 [.int .u8 0] 1 (tP 29) (tP 29)),mV 7 30] (.seq (sO [mV 31 1,oP 32 (lS 31),oP 33 (.mv (kI 0))] (.block 0 (.loop c182_0))) (sO [mV 66 7,mV 6 66] .ret)))))
theorem k182 : compF Tryz.prog Tryz.f182 = some (c182,[6]) := by kernel_rfl
theorem n182 : Tryz.f182.ntmps = 67 := by kernel_rfl
theorem keep_push {h : Heap} (hc : h.Closed) (o : AObj) : ∀ u ob,h.m u = some ob → (h.push o).m u = some ob := fun u ob e => by rw [push_m,if_neg (by have := (hc u ob e).1; omega)]; exact e
theorem closed_u8 {h : Heap} (hc : h.Closed) (a b : Int) : (h.push (.cells [.int .u8 a,.int .u8 b] .ex 1)).Closed := closed_push hc (fun x hx => by simp at hx; rcases hx with rfl | rfl <;> exact .int)
theorem sub_push2 {h : Heap} (hc : h.Closed) {n0 : Nat} (hn : n0 ≤ h.n) (a b c d : Int) : Heap.Sub n0 h ((h.push (.cells [.int .u8 a,.int .u8 b] .ex 1)).push (.cells [.int .u8 c,.int .u8 d] .ex 1)) :=
 ⟨hn,by show h.n ≤ h.n + 1 + 1; omega,fun u ob e => keep_push (closed_u8 hc a b) _ u ob (keep_push hc _ u ob e),hc⟩
theorem ev_takeJ (x : UInt8) (l : List UInt8) (i : Nat) (h : i < l.length) : Pl.ev x (l.take (i + 1)) = Pl.gm (Pl.ev x (l.take i)) x ^^^ l[i] := by
 rw [List.take_succ_eq_append_getElem h,Pl.ev_snoc]
theorem eval_okJ (f : Nat) (l : List UInt8) (x : UInt8) (v : Value) (h : Heap) (hf : GfK h f) (hl : SlB h v l) (hn : l.length ≤ 1000000) : ACalls Tryz.prog 187 [.pointer (some ⟨f,0,none⟩),v,.int .u8 (x.toNat : Int)] h fun r h' => r = .int .u8 ((Pl.ev x l).toNat : Int) ∧ h' = h := by
 refine acalls_of mix Tryz.func187 k187 n187 (by simp) fun hcl hb => ?_
 have bl := Sl.below hl hcl
 have bf := cellsOf_lt hcl hf
 obtain ⟨a,c,rfl⟩ := Sl.form hl
 simp [c187]
 refine awp_loop_of (α := Nat) (fun i => i ≤ l.length) (fun i => [(0,.pointer (some ⟨f,0,none⟩)),(2,.int .u8 (x.toNat : Int)),(7,.int .u8 ((Pl.ev x (l.take i)).toNat : Int)),(10,.slice a l.length c),(11,.int .i64 l.length),(12,.int .i64 i)]) (fun _ => h) (fun i => l.length - i) 0
  (Nat.zero_le _) (Heap.Sub.refl hcl) (by simp; exact ⟨.ptr bf,.int,⟨rfl,.int⟩,bl,.int,.int⟩) ?_
 intro i hil
 by_cases hlt : i < l.length
 ·have hi' : (i : Int) < (l.length : Int) := by omega
  have w4 := w64n (i := i) (by omega)
  obtain ⟨b1,o1,cs1,m1,e1,rfl,_,g1,g1'⟩ := Sl.at hl hlt
  have he : eb l[i] = .int .u8 (l[i].toNat : Int) := rfl
  rw [he] at g1'
  have hs := ev_takeJ x l i hlt
  generalize l[i] = y at *
  simp [c187_0, hi', aidx_of hlt, g1, apart, g1', fil2, -Int.natCast_add]
  refine (gfmul2_ok f (Pl.ev x (l.take i)) x h hcl hf).eqK ?_
  simp [fil2,-Int.natCast_add]
  refine (gfadd2_ok f (Pl.gm (Pl.ev x (l.take i)) x) y (h.push (.cells [.int .u8 ((Pl.ev x (l.take i)).toNat : Int),.int .u8 (x.toNat : Int)] .ex 1)) (by show f < h.n + 1; omega)).eqK ?_
  rw [← hs]
  simp [w4,-Int.natCast_add]
  exact ⟨i + 1,by omega,by omega,sub_push2 hcl (Nat.le_refl _) _ _ _ _,.ptr bf,.int,⟨rfl,.int⟩,bl,.int,rfl,.int⟩
 ·have hie : i = l.length := by omega
  subst hie
  rw [List.take_of_length_le (Nat.le_refl _)]
  simp [c187_0]
theorem mulF_snoc (b : List UInt8) (n : Nat) (c : UInt8) : ∀ (a : List UInt8) (i : Nat) (out : List UInt8),Pl.mulF b n (a ++ [c]) i out = Pl.xl (Pl.mulF b n a i out) (Pl.rowF n (i + a.length) c b)
 | [],i,out => rfl
 | d :: a,i,out => by
   have := mulF_snoc b n c a (i + 1) (Pl.xl out (Pl.rowF n i d b))
   show Pl.mulF b n (a ++ [c]) (i + 1) _ = Pl.xl (Pl.mulF b n a (i + 1) _) _
   rw [this]
   congr 2
   show i + 1 + a.length = i + (a.length + 1)
   omega
theorem xl_getE (a b : List UInt8) (j : Nat) (hj : j < (Pl.xl a b).length) (ha : j < a.length) (hb : j < b.length) : (Pl.xl a b)[j] = a[j] ^^^ b[j] := by
 exact List.getElem_zipWith
theorem xl_set (a b : List UInt8) (j : Nat) (y : UInt8) (hl : a.length = b.length) (hj : j < a.length) : (Pl.xl a b).set j ((Pl.xl a b)[j]'(by rw [Pl.xl_len hl]; exact hj) ^^^ y) = Pl.xl a (b.set j (b[j]'(by omega) ^^^ y)) := by
 have hx := Pl.xl_len hl
 have hl2 : a.length = (b.set j (b[j]'(by omega) ^^^ y)).length := by rw [List.length_set]; exact hl
 refine List.ext_getElem (by rw [List.length_set,hx,Pl.xl_len hl2]) fun i h1 h2 => ?_
 rw [List.length_set,hx] at h1
 rw [List.getElem_set,xl_getE _ _ i h2 h1 (by omega),List.getElem_set]
 by_cases q : j = i
 ·subst q
  rw [if_pos rfl,if_pos rfl,xl_getE _ _ j (by omega) hj (by omega),UInt8.xor_assoc]
 ·rw [if_neg q,if_neg q,xl_getE _ _ i (by omega) h1 (by omega)]
theorem row_step (n i k : Nat) (c : UInt8) (b : List UInt8) (hk : k < b.length) (hn : i + b.length ≤ n) : (Pl.rowF n i c (b.take k)).set (i + k) (Pl.gm c b[k]) = Pl.rowF n i c (b.take (k + 1)) ∧ ∃ h : i + k < (Pl.rowF n i c (b.take k)).length,(Pl.rowF n i c (b.take k))[i + k] = 0 := by
 have hl1 : (b.take k).length = k := by rw [List.length_take]; omega
 have hl2 : (b.take (k + 1)).length = k + 1 := by rw [List.length_take]; omega
 have e : Pl.rowF n i c (b.take k) = (List.replicate i 0 ++ (b.take k).map (Pl.gm c)) ++ (0 :: List.replicate (n - i - (k + 1)) 0) := by
  unfold Pl.rowF
  rw [hl1,show n - i - k = (n - i - (k + 1)) + 1 by omega,List.replicate_succ]
 have hmk : min k b.length = k := by omega
 have hp : (List.replicate i (0 : UInt8) ++ (b.take k).map (Pl.gm c)).length = i + k := by simp [hmk]
 constructor
 ·rw [e,← hp,List.set_append_right _ _ (Nat.le_refl _),Nat.sub_self,List.set_cons_zero]
  unfold Pl.rowF
  rw [hl2,List.take_succ_eq_append_getElem hk,List.map_append]
  simp
 ·refine ⟨by rw [e,List.length_append,hp]; simp,?_⟩
  rw [List.getElem_of_eq e,List.getElem_append_right (by omega)]
  simp [hmk]
theorem NewB.keep {h H H' : Heap} {v : Value} {l : List UInt8} (n : NewB h H v l) (g : Gr H H') : NewB h H' v l := by
 obtain ⟨nm,q,hx,g0⟩ := n
 refine ⟨nm,q.keep fun x e => ?_,hx,g0.trans g⟩
 subst e
 rcases q with ⟨q, _⟩ | ⟨x', md, e', q, _, hc', _⟩
 ·cases q
 ·cases q
  have := m_of_cells hc'
  rw [this]; exact g.m _ _ this
theorem NewB.cut {h H : Heap} {v : Value} {l : List UInt8} (n : NewB h H v l) : Cut1 H v := by
 obtain ⟨nm,q,_⟩ := n
 rintro b o n c cs m e rfl hx
 rcases q with ⟨_, q, _⟩ | ⟨x', md, e', _, q, hc', _, _, hlo⟩
 ·cases q
 ·cases q; rw [hx] at hc'; cases hc'; exact hlo
theorem Cut1.keep {l' : List UInt8} {h h' : Heap} {v : Value} (c : Cut1 h v) (l : SlB h v l') (g : Gr h h') : Cut1 h' v := by
 rintro b o n cp cs m e rfl hx
 rcases l with ⟨_, q, _⟩ | ⟨b', o', cap', c', m', e', q, hx', _⟩
 ·cases q
 ·cases q
  have := cellsOf_keep g.m hx'
  rw [hx] at this
  cases this
  exact c _ _ _ _ _ _ _ rfl hx'
theorem NewB.below {h H : Heap} {v : Value} {l : List UInt8} (n : NewB h H v l) : VBelow H.n v := Sl.below n.sl n.gr.cl
theorem ubs_rep (n : Nat) : List.replicate n (.int .u8 0 : Value) = ubs (List.replicate n 0) := by unfold ubs; rw [List.map_replicate]; rfl
theorem ubs_getJ {l : List UInt8} {i : Nat} (h : i < l.length) : (ubs l)[i]? = some (.int .u8 (l[i].toNat : Int)) := by
 unfold ubs; rw [List.getElem?_map,List.getElem?_eq_getElem h]; rfl
theorem ubs_put {l : List UInt8} {i : Nat} (h : i < l.length) (y : UInt8) : aput (ubs l) i [.int .u8 (y.toNat : Int)] = ubs (l.set i y) := by
 rw [aput_setJ _ _ _ (by rw [ubs_len]; exact h)]
 unfold ubs; rw [List.map_set]; rfl
theorem mulF_take (A B : List UInt8) (n : Nat) (z : List UInt8) (i : Nat) (h : i < A.length) : Pl.mulF B n (A.take (i + 1)) 0 z = Pl.xl (Pl.mulF B n (A.take i) 0 z) (Pl.rowF n i A[i] B) := by
 rw [List.take_succ_eq_append_getElem h,mulF_snoc]
 congr 2
 rw [List.length_take]; omega
theorem set_push3 (h : Heap) (o p q o' : AObj) : (((h.push o).push p).push q).set h.n o' = ((h.push o').push p).push q := by
 rw [push_set (by show h.n < h.n + 1 + 1; omega),push_set (by show h.n < h.n + 1; omega),set_push]
theorem two_okJ (f : Nat) (a b : List UInt8) (va vb : Value) (h : Heap) (hf : GfK h f) (ha : SlB h va a) (hb1 : SlB h vb b) (ca : Cut1 h va) (cb : Cut1 h vb) (hna : a.length ≤ 1000) (hnb : b.length ≤ 1000) :
  ACalls Tryz.prog 182 [.pointer (some ⟨f,0,none⟩),va,vb] h fun r h' => NewB h h' r (Pl.twoF a b) := by
 refine acalls_of mix Tryz.func182 k182 n182 (by simp) fun hcl hb => ?_
 simp [c182]
 refine (trim_okJ a va h ha ca (by omega)).mono' ?_
 rintro v1 H1 hc1 _ n1
 simp
 refine (trim_okJ b vb H1 (Sl.keep hb1 n1.gr.m) (cb.keep hb1 n1.gr) (by omega)).mono' ?_
 rintro v2 H2 hc2 _ n2
 have m1 := n1.keep n2.gr
 have s1 := m1.sl
 have s2 := n2.sl
 have b1 := m1.below
 have b2 := n2.below
 have g2 := m1.gr
 have hla := Pl.trim_len a
 have hlb := Pl.trim_len b
 have htw : Pl.twoF a b = if Pl.trimF a = [] ∨ Pl.trimF b = [] then [] else Pl.mulF (Pl.trimF b) ((Pl.trimF a).length + (Pl.trimF b).length - 1) (Pl.trimF a) 0 (List.replicate ((Pl.trimF a).length + (Pl.trimF b).length - 1) 0) := rfl
 rw [htw]
 have hf2 : GfK H2 f := hf.keep g2.m
 generalize Pl.trimF a = A at *
 generalize Pl.trimF b = B at *
 obtain ⟨a1,c1,e1⟩ := Sl.form s1
 obtain ⟨a2,c2,e2⟩ := Sl.form s2
 by_cases hA : A = []
 ·subst hA
  rw [if_pos (.inl rfl)]
  rw [e1]
  simp
  exact ⟨none,.inl ⟨rfl,rfl,rfl,rfl⟩,(fun _ e => by cases e),g2⟩
 by_cases hB : B = []
 ·subst hB
  rw [if_pos (.inr rfl)]
  rw [e1,e2]
  have : ¬ A.length = 0 := fun e => hA (List.eq_nil_of_length_eq_zero e)
  simp [hA,this]
  exact ⟨none,.inl ⟨rfl,rfl,rfl,rfl⟩,(fun _ e => by cases e),g2⟩
 rw [if_neg (by simp [hA,hB])]
 have pA : 0 < A.length := List.length_pos_iff.2 hA
 have pB : 0 < B.length := List.length_pos_iff.2 hB
 obtain ⟨n,hn⟩ : ∃ n,A.length + B.length - 1 = n := ⟨_,rfl⟩
 rw [hn]
 have q1 : IntKind.i64.wrap ((A.length : Int) + (B.length : Int)) = ((A.length + B.length : Nat) : Int) := wI (by omega)
 have q2 : IntKind.i64.wrap (((A.length + B.length : Nat) : Int) - 1) = (n : Int) := wI (by omega)
 have nA : ¬ ((A.length : Int) = 0) := by omega
 have nB : ¬ ((B.length : Int) = 0) := by omega
 rw [e1,e2]
 have q3 : (n : Int) * 2 ≤ 1099511627776 := by omega
 simp [hA,hB,nA,nB,q1,q2,q3,-Int.natCast_add]
 rw [ubs_rep]
 have hz : (List.replicate n (0 : UInt8)).length = n := by simp
 generalize List.replicate n (0 : UInt8) = Z at *
 have hOl : ∀ i,i ≤ A.length → (Pl.mulF B n (A.take i) 0 Z).length = n := fun i hi => Pl.mul_len B n _ _ _ hz (by rw [List.length_take]; omega)
 have hR : ∀ i k,i < A.length → (Pl.rowF n i A[i]! (B.take k)).length = n := fun i k hi => Pl.row_len (by rw [List.length_take]; omega) _
 have hclO : ∀ O : List UInt8,(H2.push (.cells (ubs O) (.exT 5) 1)).Closed := fun O => closed_push hc2 ubs_bel
 have bf2 : f < H2.n := cellsOf_lt hc2 hf2
 have b2' : VBelow (H2.n + 1) (.slice a2 B.length c2) := by rw [← e2]; exact b2.mono (Nat.le_succ _)
 have b1' : VBelow (H2.n + 1) (.slice a1 A.length c1) := by rw [← e1]; exact b1.mono (Nat.le_succ _)
 refine awp_loop_of (α := Nat) (fun i => i ≤ A.length) (fun i => [(0,.pointer (some ⟨f,0,none⟩)),(2,.slice a2 B.length c2),(7,.slice (some ⟨H2.n,0,none⟩) n n),(31,.slice a1 A.length c1),(32,.int .i64 A.length),(33,.int .i64 i)]) (fun i => H2.push (.cells (ubs (Pl.mulF B n (A.take i) 0 Z)) (.exT 5) 1)) (fun i => A.length - i) 0
  (Nat.zero_le _) ⟨by show h.n ≤ H2.n + 1; have := g2.n; omega, Nat.le_refl _, fun _ _ e => e, hclO _⟩ (by simp; exact ⟨.ptr (by show f < H2.n + 1; omega), b2', .slice (by show H2.n < H2.n + 1; omega), b1', .int, .int⟩) ?_
 intro i hiA
 have g3 : ∀ O : List UInt8,Gr H2 (H2.push (.cells (ubs O) (.exT 5) 1)) := fun O => ⟨Nat.le_succ _,hclO O,keep_push hc2 _⟩
 by_cases hlt : i < A.length
 ·have hi' : (i : Int) < (A.length : Int) := by omega
  have w4 := w64n (i := i) (by omega)
  have s1' := Sl.keep s1 (g3 (Pl.mulF B n (A.take i) 0 Z)).m
  rw [e1] at s1'
  obtain ⟨bb, oo, cs1, m1', e1', rfl, _, gc, gc'⟩ := Sl.at s1' hlt
  have he : eb A[i] = .int .u8 (A[i].toNat : Int) := rfl
  rw [he] at gc'
  have hOi := hOl i hiA
  have hsu := mulF_take A B n Z i hlt
  have hxi : A[i]! = A[i] := getElem!_pos A i hlt
  have hRi := fun k => hR i k hlt
  rw [hxi] at hRi
  generalize A[i] = x at *
  generalize Pl.mulF B n (A.take i) 0 Z = O at *
  simp [c182_0, hi', aidx_of hlt, gc, apart, gc', -Int.natCast_add]
  have hO0 : Pl.xl O (Pl.rowF n i x (B.take 0)) = O := by
   have hr := hRi 0
   refine List.ext_getElem (by rw [Pl.xl_len (by rw [hOi,hr])]) fun j h1 h2 => ?_
   rw [xl_getE _ _ _ h1 h2 (by omega)]
   have hz0 : Pl.rowF n i x (B.take 0) = List.replicate n 0 := by
    unfold Pl.rowF
    simp only [List.take_zero,List.map_nil,List.append_nil,List.length_nil,Nat.sub_zero]
    rw [List.replicate_append_replicate]; congr 1; omega
   rw [List.getElem_of_eq hz0]
   simp
  have b1i : VBelow (H2.n + 1) (.slice (some ⟨bb,oo,none⟩) A.length c1) := b1'
  refine awp_loop_of (α := Nat) (fun k => k ≤ B.length) (fun k => [(0,.pointer (some ⟨f,0,none⟩)),(2,.slice a2 B.length c2),(7,.slice (some ⟨H2.n,0,none⟩) n n),(8,.int .i64 i),(9,.int .u8 (x.toNat : Int)),(31,.slice (some ⟨bb,oo,none⟩) A.length c1),(32,.int .i64 A.length),(33,.int .i64 i),(38,.slice a2 B.length c2),(39,.int .i64 B.length),(40,.int .i64 k)]) (fun k => H2.push (.cells (ubs (Pl.xl O (Pl.rowF n i x (B.take k)))) (.exT 5) 1)) (fun k => B.length - k) 0
   (Nat.zero_le _) ⟨by show h.n ≤ H2.n + 1; have := g2.n; omega, Nat.le_refl _, fun _ _ e => by rw [hO0] at e; exact e, hclO _⟩ (by simp; exact ⟨.ptr (by show f < H2.n + 1; omega), b2', .slice (by show H2.n < H2.n + 1; omega), .int, .int, b1i, .int, .int, b2', .int, .int⟩) ?_
  intro k hkB
  by_cases hkl : k < B.length
  ·have hk' : (k : Int) < (B.length : Int) := by omega
   have w5 := w64n (i := k) (by omega)
   have w6 : IntKind.i64.wrap ((i : Int) + (k : Int)) = ((i + k : Nat) : Int) := wI (by omega)
   have hik : i + k < n := by omega
   have s2' := Sl.keep s2 (g3 (Pl.xl O (Pl.rowF n i x (B.take k)))).m
   rw [e2] at s2'
   obtain ⟨b3,o3,cs3,m3,e3,rfl,_,hc3,hc3'⟩ := Sl.at s2' hkl
   have he2 : eb B[k] = .int .u8 (B[k].toNat : Int) := rfl
   rw [he2] at hc3'
   obtain ⟨r1,r2,r3⟩ := row_step n i k x B hkl (by omega)
   have hRk := hRi k
   have hXl : (Pl.xl O (Pl.rowF n i x (B.take k))).length = n := by rw [Pl.xl_len (by rw [hOi,hRk]),hOi]
   have hst := xl_set O (Pl.rowF n i x (B.take k)) (i + k) (Pl.gm x B[k]) (by rw [hOi,hRk]) (by rw [hOi]; exact hik)
   rw [r3,UInt8.zero_xor,r1] at hst
   obtain ⟨u,hu⟩ : ∃ u,(Pl.xl O (Pl.rowF n i x (B.take k)))[i + k]'(by rw [hXl]; exact hik) = u := ⟨_,rfl⟩
   rw [hu] at hst
   have hu2 : (Pl.xl O (Pl.rowF n i x (B.take k)))[i + k]? = some u := by rw [List.getElem?_eq_getElem (by rw [hXl]; exact hik),hu]
   clear hu
   have hXn : (Pl.xl O (Pl.rowF n i x (B.take (k + 1)))).length = n := by rw [Pl.xl_len (by rw [hOi,hRi (k + 1)]),hOi]
   generalize B[k] = y at *
   generalize Pl.xl O (Pl.rowF n i x (B.take k)) = X at *
   have hgX : (ubs X)[i + k]? = some (.int .u8 (u.toNat : Int)) := by unfold ubs; rw [List.getElem?_map,hu2]; rfl
   have hpX := ubs_put (l := X) (i := i + k) (by omega) (u ^^^ Pl.gm x y)
   rw [hst] at hpX
   have fX := cellsOf_new H2 (ubs X) (.exT 5) 1
   have nX : (H2.push (.cells (ubs X) (.exT 5) 1)).n = H2.n + 1 := rfl
   have gX := g3 X
   have cX := hclO X
   have fX1 : ∀ a b : Int,((H2.push (.cells (ubs X) (.exT 5) 1)).push (.cells [.int .u8 a,.int .u8 b] .ex 1)).cellsOf H2.n = some (ubs X,.exT 5,1) := fun a b => by rw [cellsOf_ne (by show ¬ H2.n = H2.n + 1; omega)]; exact fX
   have fX2 : ∀ a b c d : Int,(((H2.push (.cells (ubs X) (.exT 5) 1)).push (.cells [.int .u8 a,.int .u8 b] .ex 1)).push (.cells [.int .u8 c,.int .u8 d] .ex 1)).cellsOf H2.n = some (ubs X,.exT 5,1) := fun a b c d => by rw [cellsOf_ne (by show ¬ H2.n = H2.n + 1 + 1; omega)]; exact fX1 a b
   simp [c182_2, hk', aidx_of hkl, hc3, apart, hc3', w6, aidx_of hik, fX, fX1, hgX, fil2, -Int.natCast_add]
   refine (gfmul2_ok f x y _ cX (hf2.keep gX.m)).eqK ?_
   simp [fX1,hgX,apart,fil2,-Int.natCast_add]
   refine (gfadd2_ok f u (Pl.gm x y) _ (by show f < H2.n + 1 + 1; omega)).eqK ?_
   simp [fX2,aidx_of hik,mcells,apart,hpX,ubs_len,hXl,hXn,show i + k + 1 ≤ n by omega,set_push3,w5,-Int.natCast_add,-UInt8.toNat_xor]
   exact ⟨k + 1, by omega, by omega, sub_push2 (hclO _) (by show h.n ≤ H2.n + 1; have := g2.n; omega) _ _ _ _, .ptr (by show f < H2.n + 1; omega), b2', .slice (by show H2.n < H2.n + 1; omega), .int, .int, b1i, .int, .int, b2', .int, rfl, .int⟩
  ·have hke : k = B.length := by omega
   subst hke
   rw [List.take_of_length_le (Nat.le_refl _),← hsu]
   simp [c182_2,w4,-Int.natCast_add]
   exact ⟨i + 1, by omega, by omega, ⟨by show h.n ≤ H2.n + 1; have := g2.n; omega, Nat.le_refl _, fun _ _ e => e, hclO _⟩, .ptr (by show f < H2.n + 1; omega), b2', .slice (by show H2.n < H2.n + 1; omega), b1i, .int, rfl, .int⟩
 ·have hie : i = A.length := by omega
  subst hie
  rw [List.take_of_length_le (Nat.le_refl _)]
  have hl := hOl A.length (Nat.le_refl _)
  rw [List.take_of_length_le (Nat.le_refl _)] at hl
  simp [c182_0]
  exact ⟨some H2.n,.inr ⟨H2.n,.exT 5,1,rfl,by rw [hl],by exact cellsOf_new _ _ _ _,by rw [ubs_len,Nat.mul_one],by simp,fun _ => rfl⟩,fun x e => by cases e; have := g2.n; omega,g2.trans (g3 _)⟩
def c153_0 : AC := sO [oP 14 (bT .lss 13 12)] (.seq (cT 14 .skip (.exit 0)) (.seq (.block 1 (sO [oP 15 (iA 1 11 13),oP 16 (lN 15),mV 7 16] (.ops [mV 17 0,mV 18 5,mV 19 7,oP 20 (.call 182 [tP 17,tP 18,tP 19]),mV 5 20]))) (.ops [oP 21 (bK .add 13 1),mV 13 21])))
def c153 : AC := sO [oP 4 (.mv (.const (.slice none 0 0)))] (.seq (sO [mV 8 0,oP 9 (.eqv false .ptr (tP 8) (.const (.pointer none)))] (cT 9 (sO [oP 4 (.mv (.const (.slice none 0 0)))] .ret) .skip)) (sO [oP 10 (.buildS 1 [.int .u8 0] [(0,1,.const (.int .u8 1))]),mV 5 10] (.seq (sO [mV 11 1,oP 12 (lS 11),oP 13 (.mv (kI 0))] (.block 0 (.loop c153_0))) (sO [mV 22 5,mV 4 22] .ret))))
theorem k153 : compF Tryz.prog Tryz.f153 = some (c153,[4]) := by kernel_rfl
theorem n153 : Tryz.f153.ntmps = 23 := by kernel_rfl
def c126_0 : AC := sO [oP 11 (bT .lss 10 9)] (.seq (cT 11 .skip (.exit 0)) (.seq (.block 1 (sO [oP 12 (iA 1 8 10),oP 13 (lN 12),mV 7 13] (.ops [mV 14 5,mV 15 7,oP 16 (.buildS 2 [.int .u8 0,.int .u8 0] [(0,1,.const (.int .u8 1)),(1,1,.tmp 15)]),oP 17 (.buildS 1 [.slice none 0 0] [(0,1,.tmp 16)]),oP 18 (.app 1 24 102 (tP 14) (tP 17)),mV 5 18]))) (.ops [oP 19 (bK .add 10 1),mV 10 19])))
def c126 : AC := sO [oP 4 (.mv (.const (.slice none 0 0)))] (sO [oP 5 (.mv (.const (.slice none 0 0)))] (.seq (sO [mV 8 1,oP 9 (lS 8),oP 10 (.mv (kI 0))] (.block 0 (.loop c126_0))) (sO [mV 20 0,mV 21 5,oP 22 (.call 153 [tP 20,tP 21]),mV 4 22] .ret)))
theorem k126 : compF Tryz.prog Tryz.f126 = some (c126,[4]) := by kernel_rfl
theorem n126 : Tryz.f126.ntmps = 23 := by kernel_rfl
theorem two_len (a b : List UInt8) : (Pl.twoF a b).length ≤ a.length + b.length := by
 have h1 := Pl.trim_len a
 have h2 := Pl.trim_len b
 unfold Pl.twoF
 split
 ·simp
 ·rename_i h
  have p1 : 0 < (Pl.trimF a).length := List.length_pos_iff.2 fun e => h (.inl e)
  rw [Pl.mul_len _ _ _ _ _ (by simp) (by omega)]
  omega
def SlSl (H : Heap) (v : Value) (L : List (List UInt8)) : Prop := ∃ vs : List Value,Sl id H v vs ∧ vs.length = L.length ∧ ∀ i (h1 : i < vs.length) (h2 : i < L.length),SlB H vs[i] L[i] ∧ Cut1 H vs[i]
theorem SlSl.keep {H H' : Heap} {v : Value} {L : List (List UInt8)} (s : SlSl H v L) (g : Gr H H') : SlSl H' v L := by
 obtain ⟨vs,a,b,c⟩ := s
 exact ⟨vs,Sl.keep a g.m,b,fun i h1 h2 => ⟨Sl.keep (c i h1 h2).1 g.m,(c i h1 h2).2.keep (c i h1 h2).1 g⟩⟩
def prodF (L : List (List UInt8)) : List UInt8 := L.foldl Pl.twoF [1]
theorem prodF_take (L : List (List UInt8)) (i : Nat) (h : i < L.length) : prodF (L.take (i + 1)) = Pl.twoF (prodF (L.take i)) L[i] := by
 unfold prodF
 rw [List.take_succ_eq_append_getElem h,List.foldl_append]; rfl
theorem prod_len (L : List (List UInt8)) (hL : ∀ l ∈ L,l.length ≤ 2) : ∀ i,i ≤ L.length → (prodF (L.take i)).length ≤ 1 + 2 * i
 | 0,_ => by simp [prodF]
 | i + 1,h => by
   have := prod_len L hL i (by omega)
   rw [prodF_take L i (by omega)]
   have h2 := two_len (prodF (L.take i)) L[i]
   have h3 := hL L[i] (List.getElem_mem _)
   omega
structure MuS where
 i : Nat
 v : Value
 H : Heap
theorem mul_okJ (f : Nat) (L : List (List UInt8)) (v : Value) (h : Heap) (hf : GfK h f) (hl : SlSl h v L) (hL : ∀ l ∈ L,l.length ≤ 2) (hn : L.length ≤ 400) :
  ACalls Tryz.prog 153 [.pointer (some ⟨f,0,none⟩),v] h fun r h' => NewB h h' r (prodF L) := by
 refine acalls_of mix Tryz.func153 k153 n153 (by simp) fun hcl hb => ?_
 have hq := ptrq
 obtain ⟨vs,hvs,hlen,hall⟩ := id hl
 have bl := Sl.below hvs hcl
 have bf := cellsOf_lt hcl hf
 obtain ⟨a,c,rfl⟩ := Sl.form hvs
 have fil1 : afill [.int .u8 0] [(0,1,.int .u8 1)] = some [.int .u8 1] := rfl
 have c1 : (h.push (.cells [.int .u8 1] .ex 1)).Closed := closed_push hcl (fun x hx => by simp at hx; rw [hx]; exact .int)
 have g1 : Gr h (h.push (.cells [.int .u8 1] .ex 1)) := ⟨Nat.le_succ _,c1,keep_push hcl _⟩
 have nb0 : NewB h (h.push (.cells [.int .u8 1] .ex 1)) (.slice (some ⟨h.n,0,none⟩) 1 1) [1] := ⟨some h.n,.inr ⟨h.n,.ex,1,rfl,rfl,cellsOf_new _ _ _ _,rfl,by simp,fun _ => rfl⟩,fun x e => by cases e; exact Nat.le_refl _,g1⟩
 simp [c153,hq,fil1]
 generalize h.push (.cells [.int .u8 1] .ex 1) = H1 at *
 refine awp_loop_of (α := MuS) (fun z => z.i ≤ L.length ∧ NewB h z.H z.v (prodF (L.take z.i))) (fun z => [(0,.pointer (some ⟨f,0,none⟩)),(5,z.v),(11,.slice a vs.length c),(12,.int .i64 vs.length),(13,.int .i64 z.i)]) (fun z => z.H) (fun z => L.length - z.i) ⟨0,.slice (some ⟨h.n,0,none⟩) 1 1,H1⟩
  ⟨Nat.zero_le _,nb0⟩ ⟨g1.n,Nat.le_refl _,fun _ _ e => e,c1⟩ (by simp; exact ⟨.ptr (by show f < H1.n; have := g1.n; omega),nb0.below,bl.mono g1.n,.int,.int⟩) ?_
 rintro ⟨i,v,H⟩ ⟨hi,nb⟩
 dsimp only at hi nb ⊢
 have gH := nb.gr
 by_cases hlt : i < L.length
 ·have hi' : (i : Int) < (vs.length : Int) := by omega
  have w4 := w64n (i := i) (by omega)
  obtain ⟨b1,o1,cs1,m1,e1,rfl,_,gc,gc'⟩ := Sl.at (Sl.keep hvs gH.m) (show i < vs.length by omega)
  obtain ⟨s1,k1⟩ := hall i (by omega) hlt
  have hid : id vs[i] = vs[i] := rfl
  rw [hid] at gc'
  have hpl := prod_len L hL i (by omega)
  have hpt := prodF_take L i hlt
  have h2 := hL L[i] (List.getElem_mem hlt)
  simp [c153_0, hi', aidx_of (show i < vs.length by omega), gc, apart, gc', -Int.natCast_add]
  refine (two_okJ f (prodF (L.take i)) L[i] v vs[i] H (hf.keep gH.m) nb.sl (Sl.keep s1 gH.m) nb.cut (k1.keep s1 gH) (by omega) (by omega)).mono' ?_
  rintro v2 H2 hc2 hv2 n2
  rw [← hpt] at n2
  simp [w4,-Int.natCast_add]
  have gT := gH.trans n2.gr
  have nb2 : NewB h H2 v2 (prodF (L.take (i + 1))) := by
   obtain ⟨nm,q1,q2,_⟩ := n2
   exact ⟨nm,q1,fun x e => by have := q2 x e; have := gH.n; omega,gT⟩
  exact ⟨⟨i + 1,v2,H2⟩,by show L.length - (i + 1) < L.length - i; omega,⟨by show i + 1 ≤ L.length; omega,nb2⟩,⟨gT.n,Nat.le_refl _,fun _ _ e => e,gT.cl⟩,.ptr (by show f < H2.n; have := gT.n; omega),⟨rfl,nb2.below⟩,bl.mono gT.n,.int,rfl,.int⟩
 ·have hie : i = L.length := by omega
  subst hie
  rw [List.take_of_length_le (Nat.le_refl _)] at nb
  have hi' : ¬ ((L.length : Int) < (vs.length : Int)) := by omega
  simp [c153_0,hi']
  exact nb
def facC (x : Nat) : Value := .slice (some ⟨x,0,none⟩) 2 2
theorem gen_prod (r : List UInt8) : prodF (r.map fun c => [1,c]) = Pl.genF r := by
 unfold prodF Pl.genF
 rw [List.foldl_map]
structure RoS where
 i : Nat
 nm : Option Nat
 v : Value
 xs : List Nat
 H : Heap
theorem roots_okJ (f : Nat) (r : List UInt8) (v : Value) (h : Heap) (hf : GfK h f) (hl : SlB h v r) (hn : r.length ≤ 400) :
  ACalls Tryz.prog 126 [.pointer (some ⟨f,0,none⟩),v] h fun q h' => NewB h h' q (Pl.genF r) := by
 refine acalls_of mix Tryz.func126 k126 n126 (by simp) fun hcl hb => ?_
 have bl := Sl.below hl hcl
 have bf := cellsOf_lt hcl hf
 obtain ⟨a,c,rfl⟩ := Sl.form hl
 simp [c126]
 refine awp_loop_of (α := RoS) (fun z => z.i ≤ r.length ∧ z.xs.length = z.i ∧ LAt z.H 1 z.nm z.v z.i (z.xs.map facC) ∧ Gr h z.H ∧ (∀ x,z.nm = some x → h.n ≤ x) ∧ ∀ j (h1 : j < z.xs.length) (h2 : j < r.length),z.H.cellsOf z.xs[j] = some (ubs [1,r[j]],.ex,1))
  (fun z => [(0,.pointer (some ⟨f,0,none⟩)),(5,z.v),(8,.slice a r.length c),(9,.int .i64 r.length),(10,.int .i64 z.i)]) (fun z => z.H) (fun z => r.length - z.i) ⟨0,none,.slice none 0 0,[],h⟩
  ⟨Nat.zero_le _,rfl,.inl ⟨rfl,rfl,rfl,rfl⟩,Gr.refl hcl,(fun _ e => by cases e),fun j h1 _ => absurd h1 (Nat.not_lt_zero _)⟩ (Heap.Sub.refl hcl) (by simp; exact ⟨.ptr bf,.snil,bl,.int,.int⟩) ?_
 rintro ⟨i,nm,v,xs,H⟩ ⟨hi,hxl,hL,gH,hnm,hxs⟩
 dsimp only at hi hxl hL gH hnm hxs ⊢
 have hcH := gH.cl
 by_cases hlt : i < r.length
 ·have hi' : (i : Int) < (r.length : Int) := by omega
  have w4 := w64n (i := i) (by omega)
  obtain ⟨b1,o1,cs1,m1,e1,rfl,_,gc,gc'⟩ := Sl.at (Sl.keep hl gH.m) hlt
  have he : eb r[i] = .int .u8 (r[i].toNat : Int) := rfl
  rw [he] at gc'
  obtain ⟨y,hy⟩ : ∃ y,r[i] = y := ⟨_,rfl⟩
  rw [hy] at gc'
  have fil : afill [.int .u8 0,.int .u8 0] [(0,1,.int .u8 1),(1,1,.int .u8 (y.toNat : Int))] = some (ubs [1,y]) := rfl
  have cA : (H.push (.cells (ubs [1,y]) .ex 1)).Closed := closed_push hcH ubs_bel
  have kA := keep_push hcH (.cells (ubs [1,y]) .ex 1)
  have fA := cellsOf_new H (ubs [1,y]) .ex 1
  have nA : (H.push (.cells (ubs [1,y]) .ex 1)).n = H.n + 1 := rfl
  have hLA : LAt (H.push (.cells (ubs [1,y]) .ex 1)) 1 nm v i (xs.map facC) := hL.keep fun x e => by
   have hx := hL
   rw [e] at hx
   have hlt := hx.lt hcH
   rw [push_m,if_neg (by omega)]
  have fil2' : ∀ v : Value,afill [.slice none 0 0] [(0,1,.slice (some ⟨H.n,0,none⟩) 2 2)] = some [facC H.n] := fun _ => rfl
  simp [c126_0, hi', aidx_of hlt, gc, apart, gc', fil, fil2' .nilIface, -Int.natCast_add]
  generalize H.push (.cells (ubs [1,y]) .ex 1) = HA at *
  have bF : ∀ n,H.n < n → VBelow n (facC H.n) := fun n hn => .slice hn
  have cB : (HA.push (.cells [facC H.n] .ex 1)).Closed := closed_push cA (fun x hx => by simp at hx; rw [hx]; exact bF _ (by show H.n < HA.n + 1; omega))
  have kB := keep_push cA (.cells [facC H.n] .ex 1)
  have nB : (HA.push (.cells [facC H.n] .ex 1)).n = HA.n + 1 := rfl
  have hLB : LAt (HA.push (.cells [facC H.n] .ex 1)) 1 nm v i (xs.map facC) := hLA.keep fun x e => by
   have hx := hLA
   rw [e] at hx
   have hlt := hx.lt cA
   rw [push_m,if_neg (by omega)]
  have hfst : afirst (HA.push (.cells [facC H.n] .ex 1)) 1 1 (.slice (some ⟨HA.n,0,none⟩) 1 1) = some [facC H.n] := by simp [afirst,cellsOf_new,acut]
  rw [nA] at hfst
  have fB := cellsOf_keep kB fA
  generalize HA.push (.cells [facC H.n] .ex 1) = HB at *
  obtain ⟨a', rfl, v2, H2, happ, l2, keep2, n2, c3⟩ := lat_app (t := 102) (bytes := 24) (k := 1) (new := [facC H.n]) cB hLB (by omega) rfl (fun x hx => by rw [List.mem_singleton.1 hx]; exact bF _ (by omega)) (by omega)
  simp [alen,hfst,happ,w4,-Int.natCast_add]
  have kAll : ∀ u ob,H.m u = some ob → nm ≠ some u → H2.m u = some ob := fun u ob e q => keep2 u ob (kB u ob (kA u ob e)) q
  have kOld : ∀ u ob,h.m u = some ob → H2.m u = some ob := fun u ob e => kAll u ob (gH.m u ob e) (fun q => by have := hnm u q; have := (hcl u ob e).1; omega)
  refine ⟨⟨i + 1,some HB.n,v2,xs ++ [H.n],H2⟩,by show r.length - (i + 1) < r.length - i; omega,⟨by show i + 1 ≤ r.length; omega,by show (xs ++ [H.n]).length = i + 1; simp [hxl],?_,⟨by have := gH.n; show h.n ≤ H2.n; omega,c3,kOld⟩,fun x e => by cases e; have := gH.n; omega,fun j h1 h2 => ?_⟩,⟨by have := gH.n; show h.n ≤ H2.n; omega,Nat.le_refl _,fun _ _ e => e,c3⟩,.ptr (by show f < H2.n; have := gH.n; omega),⟨rfl,l2.below c3⟩,bl.mono (by have := gH.n; show h.n ≤ H2.n; omega),.int,rfl,.int⟩
  ·show LAt H2 1 (some HB.n) v2 (i + 1) ((xs ++ [H.n]).map facC)
   rw [List.map_append]; exact l2
  ·show H2.cellsOf (xs ++ [H.n])[j] = _
   have h1' : j < xs.length + 1 := by simpa using h1
   by_cases hj : j < xs.length
   ·rw [List.getElem_append_left hj]
    have hc := m_of_cells (hxs j hj h2)
    have hne : nm ≠ some xs[j] := fun q => by
     rcases hL with ⟨q2, _⟩ | ⟨x, md, e', q2, _, hx, _⟩
     ·rw [q2] at q; cases q
     ·rw [q2] at q; cases q
      rw [hxs j hj h2] at hx
      have hh := congrArg (fun o => o.map Prod.fst) hx
      simp only [Option.map_some,Option.some.injEq] at hh
      have h0 := congrArg (fun l => l[0]?) hh
      rw [List.getElem?_map,List.getElem?_eq_getElem (show 0 < xs.length by omega)] at h0
      cases h0
    unfold Heap.cellsOf
    rw [kAll _ _ hc hne]
   ·have hje : j = xs.length := by omega
    subst hje
    rw [List.getElem_append_right (Nat.le_refl _)]
    simp only [Nat.sub_self,List.getElem_cons_zero]
    have hc := m_of_cells fB
    have hne : nm ≠ some H.n := fun q => by
     rw [q] at hL
     have := hL.lt hcH
     omega
    have : r[xs.length]'h2 = y := by rw [← hy]; simp only [hxl]
    unfold Heap.cellsOf
    rw [keep2 _ _ hc hne,this]
 ·have hie : i = r.length := by omega
  subst hie
  have hi' : ¬ ((r.length : Int) < (r.length : Int)) := by omega
  have hss : SlSl H v (r.map fun c => [1,c]) := by
   refine ⟨xs.map facC,LAt.sl (enc := id) (l := xs.map facC) (n := r.length) (nm := nm) (by rw [List.map_id]; exact hL),by simp [hxl],fun j h1 h2 => ?_⟩
   rw [List.length_map] at h1 h2
   rw [List.getElem_map,List.getElem_map]
   have hc := hxs j h1 h2
   exact ⟨.inr ⟨xs[j],0,2,_,.ex,1,rfl,hc,Nat.le_refl _,fun _ => Nat.le_refl _,fun k hk => by rw [Nat.zero_add]; exact ubs_getJ hk⟩,fun b o n c cs m e q hx => by cases q; rw [hc] at hx; cases hx; exact fun _ => rfl⟩
  simp [c126_0,hi']
  refine (mul_okJ f (r.map fun c => [1,c]) v H (hf.keep gH.m) hss (fun l hl => by obtain ⟨c,_,rfl⟩ := List.mem_map.1 hl; simp) (by simpa using hn)).mono ?_
  rintro v2 H2 n2
  rw [gen_prod] at n2
  simp
  obtain ⟨nm2,q1,q2,q3⟩ := n2
  exact ⟨nm2,q1,fun x e => by have := q2 x e; have := gH.n; omega,gH.trans q3⟩
def c183_2 : AC := sO [oP 61 (bT .lss 60 59)] (.seq (cT 61 .skip (.exit 2)) (.seq (.block 3 (sO [mV 62 60,oP 63 (iA 1 58 60),oP 64 (lN 63),mV 12 62,mV 13 64] (.draw [([mV 65 9,mV 66 11,mV 67 12,oP 68 (bT .add 66 67),mV 69 0,mV 70 9,mV 71 11,mV 72 12,oP 73 (bT .add 71 72),oP 74 (iA 1 70 73),oP 75 (lN 74),mV 76 0,mV 77 10,mV 78 11,oP 79 (iA 1 77 78),oP 80 (lN 79),mV 81 13],[oP 82 (.buildS 2 [.int .u8 0,.int .u8 0] [(0,1,.tmp 80),(1,1,.tmp 81)])],[oP 75 (lN 74)]),([],[oP 83 (.call 200 [tP 76,tP 82])],[oP 75 (lN 74)]),([],[oP 84 (.buildS 2 [.int .u8 0,.int .u8 0] [(0,1,.tmp 75),(1,1,.tmp 83)])],[]),([],[oP 85 (.call 199 [tP 69,tP 84])],[]),([oP 86 (iA 1 65 68)],[nP (.store 1 (tP 86) (tP 85))],[]),([],[],[])]))) (.ops [oP 87 (bK .add 60 1),mV 60 87])))
def c183_0 : AC := sO [oP 41 (bT .lss 40 39)] (.seq (cT 41 .skip (.exit 0)) (.seq (.block 1 (sO [mV 42 40,mV 11 42] (.seq (.draw [([mV 44 10,mV 45 11,mV 46 0,mV 47 9,mV 48 11,oP 49 (iA 1 47 48),oP 50 (lN 49),mV 51 2,oP 52 (.iAddrS 1 (tP 51) (kI 0)),oP 53 (lN 52)],[oP 54 (.call 205 [tP 46,tP 50,tP 53])],[]),([mV 43 54,oP 55 (xR 43 0),oP 56 (xR 43 1),oP 57 (iA 1 44 45)],[nP (.store 1 (tP 57) (tP 55))],[]),([],[],[])]) (sO [mV 58 2,oP 59 (lS 58),oP 60 (.mv (kI 0))] (.block 2 (.loop c183_2)))))) (.ops [oP 88 (bK .add 40 1),mV 40 88])))
def c183 : AC := sO [oP 6 (.mv (.const (.slice none 0 0))),oP 7 (.mv (.const (.slice none 0 0))),oP 8 (.mv kF)] (sO [mV 14 2,oP 15 (.call 204 [tP 14]),mV 2 15] (.seq (sO [mV 16 0,oP 17 (.eqv false .ptr (tP 16) (.const (.pointer none))),mV 18 17,gP 19 18 false (.mv (tP 2)),gP 20 18 false (lS 19),gP 21 18 false (bK .eql 20 0),oP 22 (pT 18 21)] (cT 22 (sO [oP 6 (.mv (.const (.slice none 0 0))),oP 7 (.mv (.const (.slice none 0 0))),oP 8 (.mv kF)] .ret) .skip)) (sO [mV 23 1,oP 24 (.call 204 [tP 23]),mV 9 24] (.seq (sO [mV 25 9,oP 26 (lS 25),mV 27 2,oP 28 (lS 27),oP 29 (bT .lss 26 28)] (cT 29 (sO [mV 30 9,oP 6 (.mv (.const (.slice none 0 0))),mV 7 30,oP 8 (.mv kT)] .ret) .skip)) (sO [mV 31 9,oP 32 (lS 31),mV 33 2,oP 34 (lS 33),oP 35 (bT .sub 32 34),oP 36 (bK .add 35 1),oP 37 (.mkSlT 5 [.int .u8 0] 1 (tP 36) (tP 36)),mV 10 37] (.seq (sO [mV 38 10,oP 39 (lS 38),oP 40 (.mv (kI 0))] (.block 0 (.loop c183_0))) (sO [mV 89 10,mV 90 9,oP 91 (.call 204 [tP 90]),mV 6 89,mV 7 91,oP 8 (.mv kT)] .ret)))))))
theorem k183 : compF Tryz.prog Tryz.f183 = some (c183,[6,7,8]) := by kernel_rfl
theorem n183 : Tryz.f183.ntmps = 92 := by kernel_rfl
def c184 : AC := sO [oP 4 (.mv (.const (.slice none 0 0)))] (sO [mV 6 0,oP 7 (.call 204 [tP 6]),mV 5 7] (.seq (sO [mV 8 5,oP 9 (lS 8),oP 10 (bK .eql 9 0)] (cT 10 (sO [oP 4 (.mv (.const (.slice none 0 0)))] .ret) .skip)) (sO [mV 11 5,mV 12 1,oP 13 (.mx [tP 12,.const (.int .i64 0)]),oP 14 (.mn [tP 13,.const (.int .i64 1000)]),oP 15 (.appMk 1 1 5 [.int .u8 0] (tP 11) (tP 14)),mV 4 15] .ret)))
theorem k184 : compF Tryz.prog Tryz.f184 = some (c184,[4]) := by kernel_rfl
theorem n184 : Tryz.f184.ntmps = 16 := by kernel_rfl
def remF (a b : List UInt8) : List UInt8 := if (Pl.trimF a).length < (Pl.trimF b).length then Pl.trimF a else Pl.trimF (Pl.divF (Pl.trimF b) (Pl.trimF a).length ((Pl.trimF a).length - (Pl.trimF b).length + 1) 0 (Pl.trimF a))
structure DvS where
 i : Nat
 R : List UInt8
 Q : List UInt8
theorem set_cells (h : Heap) (b : Nat) (o : AObj) (u : Nat) (ob : AObj) (e : h.m u = some ob) (hne : u ≠ b) : (h.set b o).m u = some ob := by rw [set_m,if_neg hne]; exact e
theorem set_push_in {h : Heap} {x : Nat} (hx : x < h.n) (o q p1 p2 o' : AObj) : ((((h.set x o).push q).push p1).push p2).set x o' = (((h.set x o').push q).push p1).push p2 := by
 rw [push_set (by show x < h.n + 1 + 1; omega),push_set (by show x < h.n + 1; omega),push_set (by show x < h.n; omega),set_set]
theorem div_okJ (f : Nat) (a b : List UInt8) (d : UInt8) (bt : List UInt8) (hB : Pl.trimF b = d :: bt) (va vb : Value) (h : Heap) (hf : GfK h f) (ha : SlB h va a) (hb1 : SlB h vb b) (ca : Cut1 h va) (cb : Cut1 h vb) (hna : a.length ≤ 2000) (hnb : b.length ≤ 1000) :
  ACalls Tryz.prog 183 [.pointer (some ⟨f,0,none⟩),va,vb] h fun r h' => ∃ vq vr,r = .tuple #[vq,vr,.bool true] ∧ NewB h h' vr (remF a b) := by
 refine acalls_of mix Tryz.func183 k183 n183 (by simp) fun hcl hb => ?_
 have hq := ptrq
 have hd := Pl.trim_head hB
 have hlb := Pl.trim_len b
 have hla := Pl.trim_len a
 have hrem : remF a b = if (Pl.trimF a).length < (Pl.trimF b).length then Pl.trimF a else Pl.trimF (Pl.divF (Pl.trimF b) (Pl.trimF a).length ((Pl.trimF a).length - (Pl.trimF b).length + 1) 0 (Pl.trimF a)) := rfl
 rw [hrem]
 simp [c183,hq]
 refine (trim_okJ b vb h hb1 cb (by omega)).mono' ?_
 rintro v1 H1 hc1 _ n1
 obtain ⟨B,hBe⟩ : ∃ B,B = d :: bt := ⟨_,rfl⟩
 rw [← hBe] at hB
 rw [hB] at n1 hlb ⊢
 have s1 := n1.sl
 have b1 := n1.below
 have g1 := n1.gr
 obtain ⟨a1,c1,e1⟩ := Sl.form s1
 have hBl : 0 < B.length := by rw [hBe]; simp
 have nB : ¬ ((B.length : Nat) : Int) = 0 := by omega
 have nB' : ¬ B = [] := fun e => by rw [e] at hBl; simp at hBl
 rw [e1]
 simp [aun, nB, nB', hq]
 refine (trim_okJ a va H1 (Sl.keep ha g1.m) (ca.keep ha g1) (by omega)).mono' ?_
 rintro v2 H2 hc2 _ n2
 have s2 := n2.sl
 have b2 := n2.below
 have g2 := n2.gr
 have gT := g1.trans g2
 obtain ⟨a2,c2,e2⟩ := Sl.form s2
 generalize Pl.trimF a = A at *
 by_cases hlt : A.length < B.length
 ·have hlt' : (A.length : Int) < (B.length : Int) := by omega
  rw [if_pos hlt]
  rw [e2] at n2 ⊢
  simp [hlt']
  obtain ⟨nm,q1,q2,_⟩ := n2
  exact ⟨_,_,⟨rfl,rfl⟩,nm,q1,fun x e => by have := q2 x e; have := g1.n; omega,gT⟩
 have hlt' : ¬ (A.length : Int) < (B.length : Int) := by omega
 rw [if_neg hlt]
 obtain ⟨k,hk⟩ : ∃ k,A.length - B.length + 1 = k := ⟨_,rfl⟩
 have q1 : IntKind.i64.wrap ((A.length : Int) - (B.length : Int)) = ((A.length - B.length : Nat) : Int) := wI (by omega)
 have q2 : IntKind.i64.wrap (((A.length - B.length : Nat) : Int) + 1) = (k : Int) := wI (by omega)
 have q3 : (k : Int) * 2 ≤ 1099511627776 := by omega
 rw [hk]
 obtain ⟨nm2,l2,nmh,_⟩ := n2
 obtain ⟨xr,md,er,rfl,hxc,hmd,hlo,hxH⟩ : ∃ xr md er,v2 = .slice (some ⟨xr,0,none⟩) A.length A.length ∧ H2.cellsOf xr = some (ubs A,md,er) ∧ md ≠ .ro ∧ (md.isLoose = true → er = 1) ∧ H1.n ≤ xr := by
  rcases l2 with ⟨_,_,q,_⟩ | ⟨x,md,e,q,rfl,hx,_,hmd,hlo⟩
  ·omega
  ·exact ⟨x,md,e,rfl,hx,hmd,hlo,nmh x q⟩
 simp [hlt', q1, q2, q3, -Int.natCast_add]
 rw [ubs_rep]
 have hz : (List.replicate k (0 : UInt8)).length = k := by simp
 generalize List.replicate k (0 : UInt8) = Z at *
 have hxn : xr < H2.n := cellsOf_lt hc2 hxc
 have hcS : ∀ R : List UInt8,(H2.set xr (.cells (ubs R) md er)).Closed := fun R => closed_set hc2 hxn (show AObj.Below H2.n (.cells (ubs R) md er) from ubs_bel)
 have hcl2 : ∀ R Q : List UInt8,((H2.set xr (.cells (ubs R) md er)).push (.cells (ubs Q) (.exT 5) 1)).Closed := fun R Q => closed_push (hcS R) ubs_bel
 have hn2 : ∀ R Q : List UInt8,((H2.set xr (.cells (ubs R) md er)).push (.cells (ubs Q) (.exT 5) 1)).n = H2.n + 1 := fun R Q => rfl
 have gS : ∀ R Q : List UInt8,Gr H1 ((H2.set xr (.cells (ubs R) md er)).push (.cells (ubs Q) (.exT 5) 1)) := fun R Q => ⟨by have := g2.n; show H1.n ≤ H2.n + 1; omega,hcl2 R Q,fun u ob e => by
  have hu := (hc1 u ob e).1
  exact keep_push (hcS R) _ u ob (set_cells _ _ _ u ob (g2.m u ob e) (by omega))⟩
 have gh : ∀ R Q : List UInt8,Gr h ((H2.set xr (.cells (ubs R) md er)).push (.cells (ubs Q) (.exT 5) 1)) := fun R Q => g1.trans (gS R Q)
 have fR : ∀ R Q : List UInt8,((H2.set xr (.cells (ubs R) md er)).push (.cells (ubs Q) (.exT 5) 1)).cellsOf xr = some (ubs R,md,er) := fun R Q => by rw [cellsOf_ne (by show ¬ xr = H2.n; omega)]; exact cellsOf_set _ _ _ _ _
 have fQ : ∀ R Q : List UInt8,((H2.set xr (.cells (ubs R) md er)).push (.cells (ubs Q) (.exT 5) 1)).cellsOf H2.n = some (ubs Q,.exT 5,1) := fun R Q => cellsOf_new (H2.set xr (.cells (ubs R) md er)) _ _ _
 have bfx : f < H2.n := by have := cellsOf_lt hcl hf; have := gT.n; omega
 have b1' : VBelow (H2.n + 1) (.slice a1 B.length c1) := by rw [← e1]; exact b1.mono (by have := g2.n; omega)
 have hstart : H2.push (.cells (ubs Z) (.exT 5) 1) = (H2.set xr (.cells (ubs A) md er)).push (.cells (ubs Z) (.exT 5) 1) := by rw [set_same (m_of_cells hxc)]
 rw [hstart]
 refine awp_loop_of (α := DvS) (fun z => z.i ≤ k ∧ z.R.length = A.length ∧ z.Q.length = k ∧ Pl.divF B A.length (k - z.i) z.i z.R = Pl.divF B A.length k 0 A) (fun z => [(0,.pointer (some ⟨f,0,none⟩)),(2,.slice a1 B.length c1),(9,.slice (some ⟨xr,0,none⟩) A.length A.length),(10,.slice (some ⟨H2.n,0,none⟩) k k),(38,.slice (some ⟨H2.n,0,none⟩) k k),(39,.int .i64 k),(40,.int .i64 z.i)]) (fun z => (H2.set xr (.cells (ubs z.R) md er)).push (.cells (ubs z.Q) (.exT 5) 1)) (fun z => k - z.i) ⟨0,A,Z⟩
  ⟨Nat.zero_le _, rfl, hz, rfl⟩ ⟨(gh A Z).n, Nat.le_refl _, fun _ _ e => e, hcl2 _ _⟩ (by simp; exact ⟨.ptr (by show f < H2.n + 1; omega), b1', .slice (by show xr < H2.n + 1; omega), .slice (by show H2.n < H2.n + 1; omega), .int, .int⟩) ?_
 rintro ⟨i,R,Q⟩ ⟨hik,hRl,hQl,hdv⟩
 dsimp only at hik hRl hQl hdv ⊢
 by_cases hlt2 : i < k
 ·have hi' : (i : Int) < (k : Int) := by omega
  have w4 := w64n (i := i) (by omega)
  have hiA : i < A.length := by omega
  have hiR : i < R.length := by omega
  have sB := Sl.keep s1 (gS R Q).m
  rw [e1] at sB
  obtain ⟨bb, oo, csb, mb, eb', rfl, _, hcb, hcb'⟩ := Sl.at sB hBl
  have hB0 : B[0] = d := by simp only [hBe,List.getElem_cons_zero]
  have hebd : eb B[0] = .int .u8 (d.toNat : Int) := by rw [hB0]; rfl
  rw [hebd,Nat.add_zero] at hcb'
  obtain ⟨u,hu⟩ : ∃ u,R[i] = u := ⟨_,rfl⟩
  have hgR : (ubs R)[i]? = some (.int .u8 (u.toNat : Int)) := by rw [ubs_getJ hiR,hu]
  have hRd : R.getD i 0 = u := by rw [List.getD_eq_getElem?_getD,List.getElem?_eq_getElem hiR,hu]; rfl
  have hhd : B.headD 0 = d := by rw [hBe]; rfl
  have i0 : aidx (.int .i64 0) B.length = some 0 := aidx_of (i := 0) hBl
  simp [c183_0, hi', aidx_of hiA, aidx_of hlt2, i0, fR, hgR, hcb, hcb', apart, -Int.natCast_add]
  refine (gfdiv_ok f u d hd _ (hf.keep (gh R Q).m)).eqK ?_
  have setQ : ∀ o o', ((H2.set xr (.cells (ubs R) md er)).push o).set H2.n o' = (H2.set xr (.cells (ubs R) md er)).push o' := fun o o' => set_push (H2.set xr (.cells (ubs R) md er)) o o'
  have hpQ := ubs_put (l := Q) (i := i) (by omega) (Pl.gm u (Pl.gi d))
  simp [aidx_of hlt2,fQ,mcells,apart,hpQ,ubs_len,hQl,show i + 1 ≤ k by omega,setQ,-Int.natCast_add]
  have hQ2l : (Q.set i (Pl.gm u (Pl.gi d))).length = k := by rw [List.length_set]; exact hQl
  have hQ2i : (ubs (Q.set i (Pl.gm u (Pl.gi d))))[i]? = some (.int .u8 ((Pl.gm u (Pl.gi d)).toNat : Int)) := by rw [ubs_getJ (by omega)]; simp
  have hdv2 : Pl.divF B A.length (k - (i + 1)) (i + 1) (Pl.xl R (Pl.rowF A.length i (Pl.gm u (Pl.gi d)) B)) = Pl.divF B A.length k 0 A := by
   rw [← hdv,show k - i = (k - (i + 1)) + 1 by omega]
   show _ = Pl.divF B A.length (k - (i + 1)) (i + 1) (Pl.xl R (Pl.rowF A.length i (Pl.gm (R.getD i 0) (Pl.gi (B.headD 0))) B))
   rw [hRd,hhd]
  generalize Pl.gm u (Pl.gi d) = g at *
  generalize Q.set i g = Q2 at *
  have hRi : ∀ j,(Pl.rowF A.length i g (B.take j)).length = A.length := fun j => Pl.row_len (by rw [List.length_take]; omega) _
  have hO0 : Pl.xl R (Pl.rowF A.length i g (B.take 0)) = R := by
   have hr := hRi 0
   refine List.ext_getElem (by rw [Pl.xl_len (by rw [hRl,hr])]) fun j h1 h2 => ?_
   rw [xl_getE _ _ _ h1 h2 (by omega)]
   have hz0 : Pl.rowF A.length i g (B.take 0) = List.replicate A.length 0 := by
    unfold Pl.rowF
    simp only [List.take_zero,List.map_nil,List.append_nil,List.length_nil,Nat.sub_zero]
    rw [List.replicate_append_replicate]; congr 1; omega
   rw [List.getElem_of_eq hz0]
   simp
  have b1i : VBelow (H2.n + 1) (.slice (some ⟨bb,oo,none⟩) B.length c1) := b1'
  refine awp_loop_of (α := Nat) (fun j => j ≤ B.length) (fun j => [(0,.pointer (some ⟨f,0,none⟩)),(2,.slice (some ⟨bb,oo,none⟩) B.length c1),(9,.slice (some ⟨xr,0,none⟩) A.length A.length),(10,.slice (some ⟨H2.n,0,none⟩) k k),(11,.int .i64 i),(38,.slice (some ⟨H2.n,0,none⟩) k k),(39,.int .i64 k),(40,.int .i64 i),(58,.slice (some ⟨bb,oo,none⟩) B.length c1),(59,.int .i64 B.length),(60,.int .i64 j)])
   (fun j => (H2.set xr (.cells (ubs (Pl.xl R (Pl.rowF A.length i g (B.take j)))) md er)).push (.cells (ubs Q2) (.exT 5) 1)) (fun j => B.length - j) 0
   (Nat.zero_le _) ⟨(gh _ _).n,Nat.le_refl _,fun _ _ e => by rw [hO0] at e; exact e,hcl2 _ _⟩ (by simp; exact ⟨.ptr (by show f < H2.n + 1; omega),b1i,.slice (by show xr < H2.n + 1; omega),.slice (by show H2.n < H2.n + 1; omega),.int,.slice (by show H2.n < H2.n + 1; omega),.int,.int,b1i,.int,.int⟩) ?_
  intro j hjB
  by_cases hjl : j < B.length
  ·have hj' : (j : Int) < (B.length : Int) := by omega
   have w5 := w64n (i := j) (by omega)
   have w6 : IntKind.i64.wrap ((i : Int) + (j : Int)) = ((i + j : Nat) : Int) := wI (by omega)
   have hij : i + j < A.length := by omega
   have sB2 := Sl.keep s1 (gS (Pl.xl R (Pl.rowF A.length i g (B.take j))) Q2).m
   rw [e1] at sB2
   obtain ⟨b3,o3,cs3,m3,e3,q3e,_,hc3,hc3'⟩ := Sl.at sB2 hjl
   cases q3e
   obtain ⟨y,hy⟩ : ∃ y,B[j] = y := ⟨_,rfl⟩
   have he2 : eb B[j] = .int .u8 (y.toNat : Int) := by rw [hy]; rfl
   rw [he2] at hc3'
   obtain ⟨r1,r2,r3⟩ := row_step A.length i j g B hjl (by omega)
   rw [hy] at r1
   have hRj := hRi j
   have hXl : (Pl.xl R (Pl.rowF A.length i g (B.take j))).length = A.length := by rw [Pl.xl_len (by rw [hRl,hRj]),hRl]
   have hst := xl_set R (Pl.rowF A.length i g (B.take j)) (i + j) (Pl.gm g y) (by rw [hRl,hRj]) (by rw [hRl]; exact hij)
   rw [r3,UInt8.zero_xor,r1] at hst
   obtain ⟨w,hw⟩ : ∃ w,(Pl.xl R (Pl.rowF A.length i g (B.take j)))[i + j]'(by rw [hXl]; exact hij) = w := ⟨_,rfl⟩
   rw [hw] at hst
   have hw2 : (Pl.xl R (Pl.rowF A.length i g (B.take j)))[i + j]? = some w := by rw [List.getElem?_eq_getElem (by rw [hXl]; exact hij),hw]
   clear hw
   have hXn : (Pl.xl R (Pl.rowF A.length i g (B.take (j + 1)))).length = A.length := by rw [Pl.xl_len (by rw [hRl,hRi (j + 1)]),hRl]
   generalize Pl.xl R (Pl.rowF A.length i g (B.take j)) = X at *
   have hgX : (ubs X)[i + j]? = some (.int .u8 (w.toNat : Int)) := by unfold ubs; rw [List.getElem?_map,hw2]; rfl
   have hpX := ubs_put (l := X) (i := i + j) (by omega) (w ^^^ Pl.gm g y)
   rw [hst] at hpX
   have cX := hcl2 X Q2
   have gX := gh X Q2
   have fX := fR X Q2
   have fX1 : ∀ a b : Int,(((H2.set xr (.cells (ubs X) md er)).push (.cells (ubs Q2) (.exT 5) 1)).push (.cells [.int .u8 a,.int .u8 b] .ex 1)).cellsOf xr = some (ubs X,md,er) := fun a b => by rw [cellsOf_ne (by show ¬ xr = H2.n + 1; omega)]; exact fX
   have fX2 : ∀ a b c d : Int,((((H2.set xr (.cells (ubs X) md er)).push (.cells (ubs Q2) (.exT 5) 1)).push (.cells [.int .u8 a,.int .u8 b] .ex 1)).push (.cells [.int .u8 c,.int .u8 d] .ex 1)).cellsOf xr = some (ubs X,md,er) := fun a b c d => by rw [cellsOf_ne (by show ¬ xr = H2.n + 1 + 1; omega)]; exact fX1 a b
   have hmd2 : ¬ md = .ro := hmd
   simp [c183_2, hj', aidx_of hjl, hc3, apart, hc3', w6, aidx_of hij, aidx_of hlt2, fX, fX1, fQ, hgX, hQ2i, fil2, -Int.natCast_add]
   refine (gfmul2_ok f g y _ cX (hf.keep gX.m)).eqK ?_
   simp [fX1,hgX,apart,fil2,-Int.natCast_add]
   refine (gfadd2_ok f w (Pl.gm g y) _ (by show f < H2.n + 1 + 1; omega)).eqK ?_
   simp [fX2,aidx_of hij,mcells,apart,hpX,ubs_len,hXl,hXn,show i + j + 1 ≤ A.length by omega,set_push_in hxn,hmd2,w5,-Int.natCast_add,-UInt8.toNat_xor]
   exact ⟨j + 1,by omega,by omega,sub_push2 (hcl2 _ _) (gh _ _).n _ _ _ _,.ptr (by show f < H2.n + 1; omega),b1i,.slice (by show xr < H2.n + 1; omega),.slice (by show H2.n < H2.n + 1; omega),.int,.slice (by show H2.n < H2.n + 1; omega),.int,.int,b1i,.int,rfl,.int⟩
  ·have hje : j = B.length := by omega
   subst hje
   rw [List.take_of_length_le (Nat.le_refl _)]
   have hXl : (Pl.xl R (Pl.rowF A.length i g B)).length = A.length := by
    have := hRi B.length
    rw [List.take_of_length_le (Nat.le_refl _)] at this
    rw [Pl.xl_len (by rw [hRl,this]),hRl]
   simp [c183_2,w4,-Int.natCast_add]
   exact ⟨⟨i + 1,Pl.xl R (Pl.rowF A.length i g B),Q2⟩,by show k - (i + 1) < k - i; omega,⟨by show i + 1 ≤ k; omega,hXl,hQ2l,hdv2⟩,⟨(gh _ _).n,Nat.le_refl _,fun _ _ e => e,hcl2 _ _⟩,.ptr (by show f < H2.n + 1; omega),b1i,.slice (by show xr < H2.n + 1; omega),.slice (by show H2.n < H2.n + 1; omega),.int,rfl,.int⟩
 ·have hie : i = k := by omega
  subst hie
  rw [Nat.sub_self] at hdv
  have hdv2 : R = Pl.divF B A.length i 0 A := hdv
  simp [c183_0]
  rw [← hdv2]
  refine (trim_okJ R _ _ (.inr ⟨xr,0,A.length,ubs R,md,er,by rw [hRl],fR R Q,by omega,fun _ => by rw [ubs_len]; omega,fun j hj => by rw [Nat.zero_add]; exact ubs_getJ hj⟩) (fun b o n c cs m e q hx => by cases q; rw [fR] at hx; cases hx; exact hlo) (by omega)).mono ?_
  rintro v3 H3 n3
  simp
  obtain ⟨nm,p1,p2,p3⟩ := n3
  exact ⟨_,_,⟨rfl,rfl⟩,nm,p1,fun x e => by have := p2 x e; have := (gh R Q).n; omega,(gh R Q).trans p3⟩
def c93_0 : AC := sO [oP 35 (bT .lss 34 33)] (.seq (cT 35 .skip (.exit 0)) (.seq (.block 1 (sO [mV 36 34,mV 9 36] (.ops [mV 37 8,mV 38 0,mV 39 9,oP 40 (.call 125 [tP 38,tP 39]),oP 41 (.buildS 1 [.int .u8 0] [(0,1,.tmp 40)]),oP 42 (.app 1 1 5 (tP 37) (tP 41)),mV 8 42]))) (.ops [oP 43 (bK .add 34 1),mV 34 43])))
def c93 : AC := sO [oP 6 (.mv (.const (.pointer none))),oP 7 (.mv (kI 0))] (.seq (sO [mV 10 0,oP 11 (.eqv false .ptr (tP 10) (.const (.pointer none))),mV 12 11,gP 13 12 false (.mv (tP 2)),gP 14 12 false (bK .lss 13 1),oP 15 (pT 12 14),mV 16 15,gP 17 16 false (.mv (tP 1)),gP 18 16 false (.mv (tP 2)),gP 19 16 false (bT .leq 17 18),oP 20 (pT 16 19),mV 21 20,gP 22 21 false (.mv (tP 1)),gP 23 21 false (bK .gtr 22 255),oP 24 (pT 21 23),mV 25 24,gP 26 25 false (.mv (tP 1)),gP 27 25 false (.mv (tP 2)),gP 28 25 false (bT .sub 26 27),gP 29 25 false (bK .gtr 28 64),oP 30 (pT 25 29)] (cT 30 (sO [oP 6 (.mv (.const (.pointer none))),oP 7 (.mv (kI 1))] .ret) .skip)) (sO [oP 8 (.mv (.const (.slice none 0 0)))] (.seq (sO [mV 31 1,mV 32 2,oP 33 (bT .sub 31 32),oP 34 (.mv (kI 0))] (.block 0 (.loop c93_0))) (sO [mV 44 0,mV 45 1,mV 46 2,mV 47 0,mV 48 8,oP 49 (.call 126 [tP 47,tP 48]),oP 50 (.build [.pointer none,.int .i64 0,.int .i64 0,.slice none 0 0] [(0,1,.tmp 44),(1,1,.tmp 45),(2,1,.tmp 46),(3,1,.tmp 49)]),oP 51 (.box (tP 50)),mV 6 51,oP 7 (.mv (kI 0))] .ret))))
theorem k93 : compF Tryz.prog Tryz.f93 = some (c93,[6,7]) := by kernel_rfl
theorem n93 : Tryz.f93.ntmps = 52 := by kernel_rfl
theorem NewB.byte {h H : Heap} {v : Value} {l : List UInt8} (hc : h.Closed) (n : NewB h H v l) (y : UInt8) (hl : l.length ≤ 1000000) : ∃ a,v = .slice a l.length l.length ∧ ∃ v2 H2,aapp (H.push (.cells [.int .u8 (y.toNat : Int)] .ex 1)) 5 1 1 a l.length l.length [.int .u8 (y.toNat : Int)] 1 = some (v2,H2) ∧ NewB h H2 v2 (l ++ [y]) := by
 obtain ⟨nm,q,hx,g⟩ := n
 obtain ⟨a,e,v2,H2,happ,l2,k2,n2,c2⟩ := lat_bytes g.cl q [y] (by simp) (by simp; omega)
 refine ⟨a,e,v2,H2,happ,some (H.n + 1),l2,fun x e => by cases e; have := g.n; omega,⟨by have := g.n; omega,c2,fun u ob e => k2 u ob (g.m u ob e) fun q => by have := hx u q; have := (hc u ob e).1; omega⟩⟩
theorem first1J (H : Heap) (y : UInt8) : afirst (H.push (.cells [.int .u8 (y.toNat : Int)] .ex 1)) 1 1 (.slice (some ⟨H.n,0,none⟩) 1 1) = some [.int .u8 (y.toNat : Int)] := by simp [afirst,cellsOf_new,acut]
theorem fil1J (x : Int) : afill [.int .u8 0] [(0,1,.int .u8 x)] = some [.int .u8 x] := rfl
theorem amax_lo {n : Nat} (h : 0 < n) : amax2 (.int .i64 (n : Int)) (.int .i64 0) = some (.int .i64 (n : Int)) := by
 unfold amax2
 have : max (n : Int) 0 = n := by omega
 simp [this]
theorem amin_hi {n : Nat} (h : n ≤ 1000) : amin2 (.int .i64 (n : Int)) (.int .i64 1000) = some (.int .i64 (n : Int)) := by
 unfold amin2
 have : min (n : Int) 1000 = n := by omega
 simp [this]
def shiftF (a : List UInt8) (n : Nat) : List UInt8 := if Pl.trimF a = [] then [] else Pl.trimF a ++ List.replicate n 0
theorem shift_okJ (a : List UInt8) (n : Nat) (hn0 : 0 < n) (hn : n ≤ 1000) (v : Value) (h : Heap) (hl : SlB h v a) (hC : Cut1 h v) (hna : a.length ≤ 1000) : ACalls Tryz.prog 184 [v,.int .i64 (n : Int)] h fun r h' => NewB h h' r (shiftF a n) := by
 refine acalls_of mix Tryz.func184 k184 n184 (by simp) fun hcl hb => ?_
 have hla := Pl.trim_len a
 simp [c184]
 refine (trim_okJ a v h hl hC (by omega)).mono' ?_
 rintro v1 H1 hc1 _ n1
 unfold shiftF
 generalize Pl.trimF a = A at *
 have s1 := n1.sl
 by_cases hA : A = []
 ·subst hA
  obtain ⟨a1,c1,e1⟩ := Sl.form s1
  rw [if_pos rfl,e1]
  simp
  exact ⟨none,.inl ⟨rfl,rfl,rfl,rfl⟩,(fun _ e => by cases e),n1.gr⟩
 ·have hp : ¬ ((A.length : Int) = 0) := fun e => hA (List.eq_nil_of_length_eq_zero (by omega))
  rw [if_neg hA]
  obtain ⟨nm,q,hx,g⟩ := n1
  obtain ⟨a1,rfl,v2,H2,happ,l2,k2,n2,c2⟩ := lat_app (t := 5) (bytes := 1) (k := n) (new := ubs (List.replicate n 0)) hc1 q hn0 (by rw [ubs_len,List.length_replicate,Nat.mul_one]) (fun x hx => ubs_bel x hx) (by omega)
  have m1 : amax2 (.int .i64 (n : Int)) (.int .i64 0) = some (.int .i64 (n : Int)) := amax_lo hn0
  have m2 : amin2 (.int .i64 (n : Int)) (.int .i64 1000) = some (.int .i64 (n : Int)) := amin_hi hn
  have hz : List.replicate n (Value.int .u8 0) = ubs (List.replicate n 0) := ubs_rep n
  have hsm : (n : Int) * 2 ≤ 1099511627776 := by omega
  simp [hA,hp,afold,m1,m2,hsm,hz,happ]
  refine ⟨some H1.n,?_,fun x e => by cases e; exact g.n,⟨by have := g.n; omega,c2,fun u ob e => k2 u ob (g.m u ob e) fun q => by have := hx u q; have := (hcl u ob e).1; omega⟩⟩
  rw [List.length_append,List.length_replicate,ubs_app]
  exact l2
def CodeK (H : Heap) (c f n k : Nat) (gv : Value) : Prop := H.cellsOf c = some ([.pointer (some ⟨f,0,none⟩),.int .i64 n,.int .i64 k,gv],.ex,1) ∧ GfK H f ∧ SlB H gv (Pl.genF ((List.range (n - k)).map Pl.al)) ∧ Cut1 H gv
theorem CodeK.keep {H H' : Heap} {c f n k : Nat} {gv : Value} (q : CodeK H c f n k gv) (g : Gr H H') : CodeK H' c f n k gv :=
 ⟨cellsOf_keep g.m q.1,q.2.1.keep g.m,Sl.keep q.2.2.1 g.m,q.2.2.2.keep q.2.2.1 g⟩
structure RnS where
 i : Nat
 v : Value
 H : Heap
theorem rsnew_ok (f n k : Nat) (hk : 1 ≤ k) (hnk : k < n) (hn : n ≤ 255) (hp : n - k ≤ 64) (h : Heap) (hf : GfK h f) : ACalls Tryz.prog 93 [.pointer (some ⟨f,0,none⟩),.int .i64 (n : Int),.int .i64 (k : Int)] h fun r h' => ∃ c gv,r = .tuple #[.pointer (some ⟨c,0,none⟩),.int .i64 0] ∧ CodeK h' c f n k gv ∧ Gr h h' ∧ h.n ≤ c ∧ (∃ nm,LAt h' 1 nm gv (Pl.genF ((List.range (n - k)).map Pl.al)).length (ubs (Pl.genF ((List.range (n - k)).map Pl.al))) ∧ ∀ x,nm = some x → h.n ≤ x) := by
 refine acalls_of mix Tryz.func93 k93 n93 (by simp) fun hcl hb => ?_
 have hq := ptrq
 have bf := cellsOf_lt hcl hf
 have w0 : IntKind.i64.wrap ((n : Int) - (k : Int)) = ((n - k : Nat) : Int) := wI (by omega)
 have d1 : ¬ ((k : Int) < 1) := by omega
 have d2 : ¬ ((n : Int) ≤ (k : Int)) := by omega
 have d3 : ¬ ((255 : Int) < (n : Int)) := by omega
 have d4 : ¬ ((64 : Int) < ((n - k : Nat) : Int)) := by omega
 have d1' : ¬ (k = 0) := by omega
 have d2' : ¬ (n ≤ k) := by omega
 have d3' : ¬ (255 < n) := by omega
 simp [c93, hq, d1, d2, d3, d4, d1', d2', d3', w0]
 obtain ⟨p,hpe⟩ : ∃ p,n - k = p := ⟨_,rfl⟩
 have hCK : ∀ (H : Heap) (c : Nat) (gv : Value),CodeK H c f n k gv = (H.cellsOf c = some ([.pointer (some ⟨f,0,none⟩),.int .i64 n,.int .i64 k,gv],.ex,1) ∧ GfK H f ∧ SlB H gv (Pl.genF ((List.range p).map Pl.al)) ∧ Cut1 H gv) := fun H c gv => by unfold CodeK; rw [hpe]
 rw [hpe] at hp ⊢
 refine awp_loop_of (α := RnS) (fun z => z.i ≤ p ∧ NewB h z.H z.v ((List.range z.i).map Pl.al)) (fun z => [(0,.pointer (some ⟨f,0,none⟩)),(1,.int .i64 n),(2,.int .i64 k),(8,z.v),(33,.int .i64 p),(34,.int .i64 z.i)]) (fun z => z.H) (fun z => p - z.i) ⟨0,.slice none 0 0,h⟩
  ⟨Nat.zero_le _,NewB.nil hcl⟩ (Heap.Sub.refl hcl) (by simp; exact ⟨.ptr bf,.int,.int,.snil,.int,.int⟩) ?_
 rintro ⟨i,v,H⟩ ⟨hi,nb⟩
 dsimp only at hi nb ⊢
 have gH := nb.gr
 have hll : ((List.range i).map Pl.al).length = i := by simp
 by_cases hlt : i < p
 ·have hi' : (i : Int) < (p : Int) := by omega
  have w4 := w64n (i := i) (by omega)
  simp [c93_0, hi', -Int.natCast_add]
  refine (gfexp_ok f i (by omega) H (hf.keep gH.m)).eqK ?_
  obtain ⟨a,ev,v2,H2,happ,n2⟩ := nb.byte hcl (Pl.al i) (by rw [hll]; omega)
  rw [hll] at ev happ
  have hfst := first1J H (Pl.al i)
  have hlr : (List.range i).map Pl.al ++ [Pl.al i] = (List.range (i + 1)).map Pl.al := by rw [List.range_succ,List.map_append]; rfl
  rw [hlr] at n2
  subst ev
  simp [fil1J,alen,hfst,happ,w4,-Int.natCast_add]
  exact ⟨⟨i + 1,v2,H2⟩,by show p - (i + 1) < p - i; omega,⟨by show i + 1 ≤ p; omega,n2⟩,⟨n2.gr.n,Nat.le_refl _,fun _ _ e => e,n2.gr.cl⟩,.ptr (by show f < H2.n; have := n2.gr.n; omega),.int,.int,⟨rfl,n2.below⟩,.int,rfl,.int⟩
 ·have hie : i = p := by omega
  subst hie
  simp [c93_0]
  refine (roots_okJ f ((List.range i).map Pl.al) v H (hf.keep gH.m) nb.sl (by rw [hll]; omega)).mono' ?_
  rintro gv H2 hc2 hgv n2
  have gT := gH.trans n2.gr
  have fil : afill [.pointer none,.int .i64 0,.int .i64 0,.slice none 0 0] [(0,1,.pointer (some ⟨f,0,none⟩)),(1,1,.int .i64 n),(2,1,.int .i64 k),(3,1,gv)] = some [.pointer (some ⟨f,0,none⟩),.int .i64 n,.int .i64 k,gv] := by
   obtain ⟨a,c,rfl⟩ := Sl.form n2.sl
   rfl
  simp [fil,mcells]
  have cB : (H2.push (.cells [.pointer (some ⟨f,0,none⟩),.int .i64 n,.int .i64 k,gv] .ex 1)).Closed := closed_push hc2 (fun x hx => by
   simp at hx
   rcases hx with rfl | rfl | rfl | rfl
   ·exact .ptr (by have := gT.n; show f < H2.n + 1; omega)
   ·exact .int
   ·exact .int
   ·exact hgv.mono (Nat.le_succ _))
  have gP : Gr H2 (H2.push (.cells [.pointer (some ⟨f,0,none⟩),.int .i64 n,.int .i64 k,gv] .ex 1)) := ⟨Nat.le_succ _,cB,keep_push hc2 _⟩
  have hnm := n2
  obtain ⟨nm,l2,x2,_⟩ := hnm
  refine ⟨gv,⟨?_,gT.trans gP,gT.n,nm,?_,fun x e => Nat.le_trans gH.n (x2 x e)⟩⟩
  ·rw [hCK]
   exact ⟨cellsOf_new _ _ _ _,hf.keep (gT.trans gP).m,Sl.keep n2.sl gP.m,n2.cut.keep n2.sl gP⟩
  ·rcases l2 with q | ⟨u,md,e,h1,h2,h3,h4⟩
   ·exact .inl q
   ·exact .inr ⟨u,md,e,h1,h2,cellsOf_keep gP.m h3,h4⟩
def c154 : AC := sO [oP 4 (.mv (.const (.slice none 0 0))),oP 5 (.mv (kI 0))] (.seq (sO [mV 10 0,oP 11 (.eqv false .ptr (tP 10) (.const (.pointer none))),mV 12 11,gP 13 12 false (.mv (tP 1)),gP 14 12 false (lS 13),gP 15 12 false (.mv (tP 0)),gP 16 12 false (nC 15),gP 17 12 false (fA 2 16),gP 18 12 false (lN 17),gP 19 12 false (bT .neq 14 18),oP 20 (pT 12 19)] (cT 20 (sO [oP 4 (.mv (.const (.slice none 0 0))),oP 5 (.mv (kI 1))] .ret) .skip)) (.seq (.draw [([mV 21 0,oP 22 (nC 21),oP 23 (fA 1 22),oP 24 (lN 23),mV 25 0,oP 26 (nC 25),oP 27 (fA 2 26),oP 28 (lN 27),oP 29 (bT .sub 24 28),mV 6 29],[],[])]) (.seq (.draw [([mV 31 0,oP 32 (nC 31),oP 33 (fA 0 32),oP 34 (lN 33),mV 35 1,mV 36 6,mV 38 0,oP 39 (nC 38),oP 40 (fA 3 39),oP 41 (lN 40)],[oP 37 (.call 184 [tP 35,tP 36])],[oP 34 (lN 33),oP 41 (lN 40)]),([],[oP 42 (.call 183 [tP 34,tP 37,tP 41])],[]),([mV 30 42,oP 43 (xR 30 0),oP 44 (xR 30 1),oP 45 (xR 30 2),mV 7 43,mV 8 44,mV 9 45],[],[])]) (sO [mV 46 6,mV 47 8,oP 48 (lS 47),oP 49 (bT .sub 46 48),oP 50 (.mkSlT 5 [.int .u8 0] 1 (tP 49) (tP 49)),mV 51 8,oP 52 (.app 1 1 5 (tP 50) (tP 51)),mV 4 52,oP 5 (.mv (kI 0))] .ret))))
theorem k154 : compF Tryz.prog Tryz.f154 = some (c154,[4,5]) := by kernel_rfl
theorem n154 : Tryz.f154.ntmps = 53 := by kernel_rfl
theorem aput_nilJ (c : List Value) (o : Nat) : aput c o [] = c := by unfold aput; simp
theorem lat_firstK {h H : Heap} {n : Nat} {nm : Option Nat} {v : Value} {cells : List Value} (l : LAt h 1 nm v n cells) (k : ∀ y ob,h.m y = some ob → H.m y = some ob) : afirst H 1 n v = some cells := by
 rcases l with ⟨rfl,rfl,rfl,rfl⟩ | ⟨x,md,e,rfl,rfl,hx,hcl,hro,hes⟩
 ·rfl
 ·have hx' := cellsOf_keep k hx
  simp only [afirst, hx', if_true]
  unfold acut
  rw [if_pos (by omega),List.drop_zero,List.take_of_length_le (by omega)]
theorem lat_app0 {h : Heap} {t bytes n : Nat} {nm : Option Nat} {v : Value} {cells : List Value} (l : LAt h 1 nm v n cells) (hsm : n * (bytes + 1) ≤ 1099511627776) : ∃ a,v = .slice a n n ∧ aapp h t 1 bytes a n n [] 0 = some (v,h) := by
 rcases l with ⟨rfl,rfl,rfl,rfl⟩ | ⟨x,md,e,rfl,rfl,hx,hcl,hro,hes⟩
 ·exact ⟨none,rfl,by simp [aapp]⟩
 ·refine ⟨some ⟨x,0,none⟩,rfl,?_⟩
  unfold aapp
  dsimp only
  rw [if_pos ⟨by rw [Nat.add_zero]; exact hsm,rfl⟩,hx]
  dsimp only
  have hcut : acut cells 0 (n * 1) = some cells := by unfold acut; rw [if_pos (by omega)]; rw [List.drop_zero,List.take_of_length_le (by omega)]
  have hset : h.set x (.cells cells md e) = h := set_same (m_of_cells hx)
  rw [if_pos rfl,hcut]
  by_cases hl : md.isLoose = true
  ·simp [hl,hes hl,hro,hcl,aput_nilJ]
   rw [← hes hl]; exact hset
  ·simp [hl,hro,hcl,aput_nilJ]
   exact hset
theorem gen_trim (p : Nat) : ∃ bt,Pl.trimF (Pl.genF (Pl.rts p)) = 1 :: bt ∧ Pl.genF (Pl.rts p) = 1 :: bt ∧ bt.length = p := by
 obtain ⟨g,h1,h2⟩ := Pl.gen_one (Pl.rts p)
 refine ⟨g,?_,h1,by rw [h2]; simp [Pl.rts]⟩
 rw [h1]; unfold Pl.trimF; rw [if_neg (by decide)]
theorem rem_rest (p : Nat) (a : List UInt8) : remF a (Pl.genF (Pl.rts p)) = Pl.restF (Pl.genF (Pl.rts p)) a := by
 obtain ⟨bt,h1,h2,_⟩ := gen_trim p
 unfold remF Pl.restF
 rw [h1,← h2]
theorem parity_ok (c f n k : Nat) (gv : Value) (hk : 1 ≤ k) (hnk : k < n) (hn : n ≤ 255) (hp : n - k ≤ 64) (data : List UInt8) (hdl : data.length = k) (v : Value) (h : Heap) (hc : CodeK h c f n k gv) (hl : SlB h v data) (hC : Cut1 h v) :
  ACalls Tryz.prog 154 [.pointer (some ⟨c,0,none⟩),v] h fun r h' => ∃ vr,r = .tuple #[vr,.int .i64 0] ∧ NewB h h' vr (Pl.parF (n - k) data) := by
 subst hdl
 refine acalls_of mix Tryz.func154 k154 n154 (by simp) fun hcl hb => ?_
 have hq := ptrq
 obtain ⟨p,hpe⟩ : ∃ p,n - data.length = p := ⟨_,rfl⟩
 have w0 : IntKind.i64.wrap ((n : Int) - (data.length : Int)) = (p : Int) := wI (by omega)
 obtain ⟨c1,hf,hg,hgc⟩ := hc
 have hR : (List.range (n - data.length)).map Pl.al = Pl.rts p := by rw [hpe]; rfl
 rw [hR] at hg
 obtain ⟨bt,t1,t2,t3⟩ := gen_trim p
 obtain ⟨pl1,pl2⟩ := Pl.par_len (p := p) (by omega) data
 have hparF : Pl.parF p data = List.replicate (p - (Pl.restF (Pl.genF (Pl.rts p)) (Pl.shiftP data p)).length) 0 ++ Pl.restF (Pl.genF (Pl.rts p)) (Pl.shiftP data p) := rfl
 have hbt : (Pl.genF (Pl.rts p)).length = p + 1 := by rw [t2]; simp [t3]
 obtain ⟨a,cc,rfl⟩ := Sl.form hl
 rw [hpe,hparF]
 simp [c154,hq,c1,apart,w0]
 refine (shift_okJ data p (by omega) (by omega) _ h hl hC (by omega)).mono' ?_
 rintro v1 H1 hc1 _ n1
 have g1 := n1.gr
 have c1' := cellsOf_keep g1.m c1
 simp [c1', apart]
 have hs1 : (shiftF data p).length ≤ 2000 := by
  have := Pl.trim_len data
  unfold shiftF
  split
  ·simp
  ·simp; omega
 refine (div_okJ f (shiftF data p) (Pl.genF (Pl.rts p)) 1 bt t1 v1 gv H1 (hf.keep g1.m) n1.sl (Sl.keep hg g1.m) n1.cut (hgc.keep hg g1) hs1 (by omega)).mono' ?_
 rintro _ H2 hc2 _ ⟨vq,vr,rfl,n2⟩
 have hrr : remF (shiftF data p) (Pl.genF (Pl.rts p)) = Pl.restF (Pl.genF (Pl.rts p)) (Pl.shiftP data p) := rem_rest p _
 rw [hrr] at n2
 generalize Pl.restF (Pl.genF (Pl.rts p)) (Pl.shiftP data p) = R at *
 have gT := g1.trans n2.gr
 obtain ⟨a2,c2,e2⟩ := Sl.form n2.sl
 have w2 : IntKind.i64.wrap ((p : Int) - (R.length : Int)) = ((p - R.length : Nat) : Int) := wI (by omega)
 have w3 : ((p - R.length : Nat) : Int) * 2 ≤ 1099511627776 := by omega
 have hz := ubs_rep (p - R.length)
 have s2 := n2.sl
 rw [e2] at s2 ⊢
 simp [w2,w3,hz]
 have cZ : (H2.push (.cells (ubs (List.replicate (p - R.length) 0)) (.exT 5) 1)).Closed := closed_push hc2 ubs_bel
 have gZ : Gr H2 (H2.push (.cells (ubs (List.replicate (p - R.length) 0)) (.exT 5) 1)) := ⟨Nat.le_succ _,cZ,keep_push hc2 _⟩
 have lZ : LAt (H2.push (.cells (ubs (List.replicate (p - R.length) 0)) (.exT 5) 1)) 1 (some H2.n) (.slice (some ⟨H2.n,0,none⟩) (p - R.length) (p - R.length)) (p - R.length) (ubs (List.replicate (p - R.length) 0)) :=
  .inr ⟨H2.n,.exT 5,1,rfl,rfl,cellsOf_new _ _ _ _,by rw [ubs_len,List.length_replicate,Nat.mul_one],by simp,fun _ => rfl⟩
 have sZ := Sl.keep s2 gZ.m
 have gTZ := gT.trans gZ
 obtain ⟨nm2,l2,_,_⟩ := n2
 rw [e2] at l2
 have hfst := lat_firstK (H := H2.push (.cells (ubs (List.replicate (p - R.length) 0)) (.exT 5) 1)) l2 gZ.m
 have hnmZ : ∀ x,some H2.n = some x → h.n ≤ x := fun x e => by have := gT.n; cases e; exact this
 by_cases hR0 : R.length = 0
 ·have hRn : R = [] := List.eq_nil_of_length_eq_zero hR0
  subst hRn
  obtain ⟨a3,e3,happ⟩ := lat_app0 (t := 5) (bytes := 1) lZ (by omega)
  cases e3
  have hnew : NewB h (H2.push (.cells (ubs (List.replicate (p - 0) 0)) (.exT 5) 1)) (.slice (some ⟨H2.n,0,none⟩) (p - 0) (p - 0)) (List.replicate (p - 0) 0 ++ []) := ⟨some H2.n,by simpa using lZ,hnmZ,gTZ⟩
  simp at happ hfst hnew ⊢
  simp [alen,hfst]
  rw [show ubs ([] : List UInt8) = [] from rfl,happ]
  simp
  exact hnew
 ·obtain ⟨a3,e3,v4,H4,happ,l4,fr4,n4,hc4⟩ := lat_app (t := 5) (bytes := 1) (k := R.length) (new := ubs R) cZ lZ (by omega) (by rw [ubs_len,Nat.mul_one]) (fun x hx => ubs_bel x hx) (by omega)
  cases e3
  simp [alen,hfst,happ]
  refine ⟨some (H2.n + 1),?_,?_,?_⟩
  ·rw [ubs_app,List.length_append,List.length_replicate]; exact l4
  ·intro x e
   cases e
   have := gTZ.n
   exact this
  ·refine ⟨by rw [n4]; have := gTZ.n; omega,hc4,fun y ob e => fr4 y ob (gTZ.m y ob e) ?_⟩
   intro q
   cases q
   have := (hcl H2.n ob e).1
   have := gT.n
   omega
def c155_2 : AC := sO [oP 28 (bT .lss 27 26)] (.seq (cT 28 .skip (.exit 2)) (.seq (.block 3 (sO [oP 29 (iA 1 25 27),oP 30 (lN 29),mV 8 30] (.ops [mV 31 6,mV 32 8,oP 33 (.app 1 1 5 (tP 31) (tP 32)),mV 6 33]))) (.ops [oP 34 (bK .add 27 1),mV 27 34])))
def c155_0 : AC := sO [oP 12 (bT .lss 11 10)] (.seq (cT 12 .skip (.exit 0)) (.seq (.block 1 (sO [oP 13 (iA 1 9 11),oP 14 (lN 13),mV 5 14] (sO [mV 15 3,mV 16 5,oP 17 (lS 16),oP 18 (bT .add 15 17),mV 3 18] (sO [mV 19 3,oP 20 (bK .lss 19 0)] (cT 20 (.ops [oP 21 (.mkI 9 (.const (.string ⟨⟨[108,101,110,32,111,117,116,32,111,102,32,114,97,110,103,101]⟩⟩))),nP (.bad)]) .skip))))) (.ops [oP 22 (bK .add 11 1),mV 11 22])))
def c155 : AC := sO [oP 2 (.mv (.const (.slice none 0 0)))] (sO [oP 3 (.mv (kI 0))] (.seq (sO [mV 9 0,oP 10 (lS 9),oP 11 (.mv (kI 0))] (.block 0 (.loop c155_0))) (sO [mV 23 3,oP 24 (.call 185 [.const (.slice none 0 0),tP 23]),mV 6 24] (.seq (sO [mV 25 0,oP 26 (lS 25),oP 27 (.mv (kI 0))] (.block 2 (.loop c155_2))) (sO [mV 35 6,mV 2 35] .ret)))))
theorem k155 : compF Tryz.prog Tryz.f155 = some (c155,[2]) := by kernel_rfl
theorem n155 : Tryz.f155.ntmps = 36 := by kernel_rfl
def c185 : AC := sO [oP 4 (.mv (.const (.slice none 0 0)))] (.seq (sO [mV 5 1,oP 6 (bK .lss 5 0)] (cT 6 (.ops [oP 7 (.mkI 9 (.const (.string ⟨⟨[99,97,110,110,111,116,32,98,101,32,110,101,103,97,116,105,118,101]⟩⟩))),nP (.bad)]) .skip)) (.seq (sO [mV 8 1,mV 9 0,oP 10 (.capS (tP 9)),mV 11 0,oP 12 (lS 11),oP 13 (bT .sub 10 12),oP 14 (bT .sub 8 13),mV 1 14] (sO [mV 15 1,oP 16 (bK .gtr 15 0)] (cT 16 (.ops [mV 17 0,mV 18 0,oP 19 (.capS (tP 18)),oP 20 (.slV 1 (tP 17) none (some (tP 19)) none),mV 21 1,oP 22 (.appMk 1 1 5 [.int .u8 0] (tP 20) (tP 21)),mV 23 0,oP 24 (lS 23),oP 25 (.slV 1 (tP 22) none (some (tP 24)) none),mV 0 25]) .skip))) (sO [mV 26 0,mV 4 26] .ret)))
theorem k185 : compF Tryz.prog Tryz.f185 = some (c185,[4]) := by kernel_rfl
theorem n185 : Tryz.f185.ntmps = 27 := by kernel_rfl
def c129 : AC := sO [oP 4 (.mv (.const (.slice none 0 0))),oP 5 (.mv (kI 0))] (sO [mV 9 0,mV 10 1,oP 11 (.call 154 [tP 9,tP 10]),mV 8 11,oP 12 (xR 8 0),oP 13 (xR 8 1),mV 6 12,mV 7 13] (.seq (sO [mV 14 7,oP 15 (bK .neq 14 0)] (cT 15 (sO [mV 16 7,oP 4 (.mv (.const (.slice none 0 0))),mV 5 16] .ret) .skip)) (sO [mV 17 1,mV 18 6,oP 19 (.buildS 2 [.slice none 0 0,.slice none 0 0] [(0,1,.tmp 17),(1,1,.tmp 18)]),oP 20 (.call 155 [tP 19]),mV 4 20,oP 5 (.mv (kI 0))] .ret)))
theorem k129 : compF Tryz.prog Tryz.f129 = some (c129,[4,5]) := by kernel_rfl
theorem n129 : Tryz.f129.ntmps = 21 := by kernel_rfl
def c162_0 : AC := sO [oP 29 (bT .lss 28 27)] (.seq (cT 29 .skip (.exit 0)) (.seq (.block 1 (sO [mV 30 28,mV 7 30] (.draw [([mV 31 6,mV 32 0,oP 33 (nC 32),oP 34 (fA 0 33),oP 35 (lN 34),mV 36 1,mV 37 0,oP 38 (nC 37),oP 39 (fA 0 38),oP 40 (lN 39),mV 41 7],[oP 42 (.call 125 [tP 40,tP 41])],[oP 35 (lN 34)]),([],[oP 43 (.call 187 [tP 35,tP 36,tP 42])],[]),([],[oP 44 (.buildS 1 [.int .u8 0] [(0,1,.tmp 43)])],[]),([],[oP 45 (.app 1 1 5 (tP 31) (tP 44))],[]),([],[mV 6 45],[]),([],[],[])]))) (.ops [oP 46 (bK .add 28 1),mV 28 46])))
def c162 : AC := sO [oP 4 (.mv (.const (.slice none 0 0))),oP 5 (.mv (kI 0))] (.seq (sO [mV 8 0,oP 9 (.eqv false .ptr (tP 8) (.const (.pointer none))),mV 10 9,gP 11 10 false (.mv (tP 1)),gP 12 10 false (lS 11),gP 13 10 false (.mv (tP 0)),gP 14 10 false (nC 13),gP 15 10 false (fA 1 14),gP 16 10 false (lN 15),gP 17 10 false (bT .neq 12 16),oP 18 (pT 10 17)] (cT 18 (sO [oP 4 (.mv (.const (.slice none 0 0))),oP 5 (.mv (kI 1))] .ret) .skip)) (sO [oP 6 (.mv (.const (.slice none 0 0)))] (.seq (.seq (.draw [([mV 19 0,oP 20 (nC 19),oP 21 (fA 1 20),oP 22 (lN 21),mV 23 0,oP 24 (nC 23),oP 25 (fA 2 24),oP 26 (lN 25),oP 27 (bT .sub 22 26),oP 28 (.mv (kI 0))],[],[])]) (.block 0 (.loop c162_0))) (sO [mV 47 6,mV 4 47,oP 5 (.mv (kI 0))] .ret))))
theorem k162 : compF Tryz.prog Tryz.f162 = some (c162,[4,5]) := by kernel_rfl
theorem n162 : Tryz.f162.ntmps = 48 := by kernel_rfl
def c163 : AC := sO [oP 2 (.mv (kI 0)),oP 3 (.mv (kI 0))] (.seq (sO [mV 4 0,oP 5 (.eqv false .ptr (tP 4) (.const (.pointer none)))] (cT 5 (sO [oP 2 (.mv (kI 0)),oP 3 (.mv (kI 0))] .ret) .skip)) (.seq (.draw [([mV 6 0,oP 7 (nC 6),oP 8 (fA 1 7),oP 9 (lN 8),mV 10 0,oP 11 (nC 10),oP 12 (fA 2 11),oP 13 (lN 12),mV 2 9,mV 3 13],[],[])]) .ret))
theorem k163 : compF Tryz.prog Tryz.f163 = some (c163,[2,3]) := by kernel_rfl
theorem n163 : Tryz.f163.ntmps = 14 := by kernel_rfl
theorem grow_okJ (n : Nat) (hn0 : 0 < n) (hn : n ≤ 1000000) (h : Heap) : ACalls Tryz.prog 185 [.slice none 0 0,.int .i64 (n : Int)] h fun r h' => r = .slice (some ⟨h.n,0,none⟩) 0 n ∧ h' = h.push (.cells (ubs (List.replicate n 0)) (.loose 5) 1) := by
 refine acalls_of mix Tryz.func185 k185 n185 (by simp) fun hcl hb => ?_
 have d1 : ¬ ((n : Int) < 0) := by omega
 have d2 : (0 : Int) < (n : Int) := by omega
 have w : IntKind.i64.wrap ((n : Int) - IntKind.i64.wrap 0) = (n : Int) := by rw [show IntKind.i64.wrap 0 = 0 from rfl,Int.sub_zero]; exact IntWalk.i64_in _ (by omega)
 have hz : List.replicate n (Value.int .u8 0) = ubs (List.replicate n 0) := ubs_rep n
 have b0 : abounds 0 0 none (some (.int .i64 0)) none = some (0,0,0) := rfl
 have b1 : abounds n n none (some (.int .i64 0)) none = some (0,0,n) := by unfold abounds abound; simp
 have hsm : (n : Int) * 2 ≤ 1099511627776 := by omega
 have ha : aapp h 5 1 1 none 0 0 (ubs (List.replicate n 0)) n = some (.slice (some ⟨h.n,0,none⟩) n n,h.push (.cells (ubs (List.replicate n 0)) (.loose 5) 1)) := by
  unfold aapp
  dsimp only
  rw [if_pos ⟨by omega,by rw [ubs_len,List.length_replicate,Nat.mul_one]⟩,if_pos ⟨rfl,rfl⟩,if_neg (by omega),Nat.zero_add]
 simp [c185,d1,d2,w,hz,hn0,b0,b1,ha,hsm,cellsOf_new]
theorem aapp_inJ {h : Heap} {t len cap k : Nat} {c new : List Value} (hc : c.length = cap) (hk : new.length = k) (hle : len + k ≤ cap) (hs : cap ≤ 1000000) :
  aapp (h.push (.cells c (.loose t) 1)) t 1 1 (some ⟨h.n,0,none⟩) len cap new k = some (.slice (some ⟨h.n,0,none⟩) (len + k) cap,h.push (.cells (aput c len new) (.loose t) 1)) := by
 have hcut : acut c 0 (len * 1) = some (c.take len) := by unfold acut; rw [if_pos (by omega),List.drop_zero,Nat.mul_one]
 unfold aapp
 dsimp only
 rw [if_pos ⟨by omega,by omega⟩,cellsOf_new]
 dsimp only
 rw [hcut]
 dsimp only
 have hl2 : len + k ≤ c.length := by omega
 simp [BMode.isLoose,hle,hl2,set_push]
theorem w0_put (l1 l2 : List UInt8) (n : Nat) (hn : l1.length + l2.length = n) : aput (ubs (List.replicate n 0)) 0 (l1.map eb) = ubs (l1 ++ List.replicate l2.length 0) := by
 subst hn
 unfold aput ubs
 simp [eb]
theorem w1_put (l1 l2 : List UInt8) : aput (ubs (l1 ++ List.replicate l2.length 0)) l1.length (l2.map eb) = ubs (l1 ++ l2) := by
 unfold aput ubs
 simp [eb]
theorem concat_okJ (l1 l2 : List UInt8) (p1 : 0 < l1.length) (p2 : 0 < l2.length) (hn1 : l1.length ≤ 1000) (hn2 : l2.length ≤ 1000) (b : Nat) (v1 v2 : Value) (m : BMode) (h : Heap) (hx : h.cellsOf b = some ([v1,v2],m,1)) (s1 : SlB h v1 l1) (s2 : SlB h v2 l2) :
  ACalls Tryz.prog 155 [.slice (some ⟨b,0,none⟩) 2 2] h fun r h' => NewB h h' r (l1 ++ l2) := by
 refine acalls_of mix Tryz.func155 k155 n155 (by simp) fun hcl hb => ?_
 obtain ⟨a1,c1,rfl⟩ := Sl.form s1
 obtain ⟨a2,c2,rfl⟩ := Sl.form s2
 have bb := cellsOf_lt hcl hx
 have x0 : aidx (.int .i64 0) 2 = some 0 := rfl
 have x1 : aidx (.int .i64 1) 2 = some 1 := rfl
 obtain ⟨S,S0,S1,S2⟩ : ∃ S : Nat → Nat,S 0 = 0 ∧ S 1 = l1.length ∧ S 2 = l1.length + l2.length := ⟨fun | 0 => 0 | 1 => l1.length | _ => l1.length + l2.length,rfl,rfl,rfl⟩
 have w1 : IntKind.i64.wrap (l1.length : Int) = (l1.length : Int) := IntWalk.i64_in _ (by omega)
 have w2 : IntKind.i64.wrap ((l1.length : Int) + (l2.length : Int)) = (l1.length : Int) + (l2.length : Int) := IntWalk.i64_in _ (by omega)
 have d1 : ¬ ((l1.length : Int) < 0) := by omega
 have d2 : ¬ ((l1.length : Int) + (l2.length : Int) < 0) := by omega
 simp [c155]
 refine awp_loop_of (α := Nat) (fun i => i ≤ 2) (fun i => [(0,.slice (some ⟨b,0,none⟩) 2 2),(3,.int .i64 (S i : Int)),(9,.slice (some ⟨b,0,none⟩) 2 2),(10,.int .i64 2),(11,.int .i64 (i : Int))]) (fun _ => h) (fun i => 2 - i) 0
  (Nat.zero_le _) (Heap.Sub.refl hcl) (by rw [S0]; simp; (repeat' apply And.intro) <;> first | exact .int | exact .slice bb) ?_
 intro i hi
 obtain rfl | rfl | rfl : i = 0 ∨ i = 1 ∨ i = 2 := by omega
 ·simp [c155_0,S0,x0,hx,apart,w1,d1]
  exact ⟨1,by omega,by omega,Heap.Sub.refl hcl,.slice bb,by rw [S1]; exact ⟨rfl,.int⟩,.slice bb,.int,rfl,.int⟩
 ·simp [c155_0,S1,x1,hx,apart,w2,d2]
  exact ⟨2,by omega,by omega,Heap.Sub.refl hcl,.slice bb,by rw [S2]; exact ⟨by omega,.int⟩,.slice bb,.int,rfl,.int⟩
 ·simp [c155_0,S2]
  obtain ⟨n,hn⟩ : ∃ n,l1.length + l2.length = n := ⟨_,rfl⟩
  rw [← Int.natCast_add,hn]
  refine (grow_okJ n (by omega) (by omega) h).eqK ?_
  obtain ⟨W,W0,W1,W2⟩ : ∃ W : Nat → List UInt8,W 0 = List.replicate n 0 ∧ W 1 = l1 ++ List.replicate l2.length 0 ∧ W 2 = l1 ++ l2 := ⟨fun | 0 => List.replicate n 0 | 1 => l1 ++ List.replicate l2.length 0 | _ => l1 ++ l2,rfl,rfl,rfl⟩
  have cW : ∀ l : List UInt8,(h.push (.cells (ubs l) (.loose 5) 1)).Closed := fun l => closed_push hcl ubs_bel
  have gW : ∀ l : List UInt8,Gr h (h.push (.cells (ubs l) (.loose 5) 1)) := fun l => ⟨Nat.le_succ _,cW l,keep_push hcl _⟩
  have bb' : b < h.n + 1 := by omega
  simp
  refine awp_loop_of (α := Nat) (fun i => i ≤ 2) (fun i => [(6,.slice (some ⟨h.n,0,none⟩) (S i) n),(25,.slice (some ⟨b,0,none⟩) 2 2),(26,.int .i64 2),(27,.int .i64 (i : Int))]) (fun i => h.push (.cells (ubs (W i)) (.loose 5) 1)) (fun i => 2 - i) 0
   (Nat.zero_le _) (by rw [W0]; exact ⟨Nat.le_succ _,Nat.le_refl _,fun _ _ e => e,cW _⟩) (by rw [S0]; simp; (repeat' apply And.intro) <;> first | exact .int | exact .slice bb' | exact .slice (Nat.lt_succ_self _)) ?_
  intro i hi
  obtain rfl | rfl | rfl : i = 0 ∨ i = 1 ∨ i = 2 := by omega
  ·have hxW := cellsOf_keep (gW (W 0)).m hx
   have hf1 := sl_firstJ (Sl.keep s1 (gW (W 0)).m) p1
   have ha := aapp_inJ (h := h) (t := 5) (len := 0) (cap := n) (k := l1.length) (c := ubs (W 0)) (new := l1.map eb) (by rw [ubs_len,W0,List.length_replicate]) (by simp) (by omega) (by omega)
   rw [W0,w0_put l1 l2 n hn,← W0,Nat.zero_add] at ha
   simp [c155_2,S0,x0,hxW,apart,alen,hf1,ha]
   exact ⟨1, by omega, by omega, by rw [W1]; exact ⟨Nat.le_succ _, Nat.le_refl _, fun _ _ e => e, cW _⟩, by rw [S1]; exact ⟨rfl, .slice (Nat.lt_succ_self _)⟩, .slice bb', .int, rfl, .int⟩
  ·have hxW := cellsOf_keep (gW (W 1)).m hx
   have hf2 := sl_firstJ (Sl.keep s2 (gW (W 1)).m) p2
   have ha := aapp_inJ (h := h) (t := 5) (len := l1.length) (cap := n) (k := l2.length) (c := ubs (W 1)) (new := l2.map eb) (by rw [ubs_len,W1]; simp; omega) (by simp) (by omega) (by omega)
   rw [W1,w1_put l1 l2,← W1] at ha
   simp [c155_2,S1,x1,hxW,apart,alen,hf2,ha]
   exact ⟨2, by omega, by omega, by rw [W2]; exact ⟨Nat.le_succ _, Nat.le_refl _, fun _ _ e => e, cW _⟩, by rw [S2]; exact ⟨rfl, .slice (Nat.lt_succ_self _)⟩, .slice bb', .int, rfl, .int⟩
  ·simp [c155_2,S2,W2,hn]
   refine ⟨some h.n,.inr ⟨h.n,.loose 5,1,rfl,?_,cellsOf_new _ _ _ _,by rw [ubs_len,Nat.mul_one],by simp,fun _ => rfl⟩,fun x e => by cases e; exact Nat.le_refl _,gW _⟩
   rw [List.length_append,hn]
theorem encode_ok (c f n k : Nat) (gv : Value) (hk : 1 ≤ k) (hnk : k < n) (hn : n ≤ 255) (hp : n - k ≤ 64) (data : List UInt8) (hdl : data.length = k) (v : Value) (h : Heap) (hc : CodeK h c f n k gv) (hl : SlB h v data) (hC : Cut1 h v) :
  ACalls Tryz.prog 129 [.pointer (some ⟨c,0,none⟩),v] h fun r h' => ∃ vr,r = .tuple #[vr,.int .i64 0] ∧ NewB h h' vr (data ++ Pl.parF (n - k) data) := by
 refine acalls_of mix Tryz.func129 k129 n129 (by simp) fun hcl hb => ?_
 simp [c129]
 refine (parity_ok c f n k gv hk hnk hn hp data hdl v h hc hl hC).mono' ?_
 rintro _ H1 hc1 _ ⟨vr,rfl,n1⟩
 obtain ⟨pl1,pl2⟩ := Pl.par_len (p := n - k) (by omega) data
 generalize Pl.parF (n - k) data = par at *
 have s1 := Sl.keep hl n1.gr.m
 have s2 := n1.sl
 have b1 := Sl.below s1 hc1
 have b2 := Sl.below s2 hc1
 obtain ⟨a1,c1,rfl⟩ := Sl.form hl
 obtain ⟨a2,c2,rfl⟩ := Sl.form s2
 have fil : afill [.slice none 0 0,.slice none 0 0] [(0,1,.slice a1 data.length c1),(1,1,.slice a2 par.length c2)] = some [.slice a1 data.length c1,.slice a2 par.length c2] := rfl
 simp [fil]
 have cB : (H1.push (.cells [.slice a1 data.length c1,.slice a2 par.length c2] .ex 1)).Closed := closed_push hc1 (fun x hx => by
  simp at hx
  rcases hx with rfl | rfl
  ·exact b1.mono (Nat.le_succ _)
  ·exact b2.mono (Nat.le_succ _))
 have gP : Gr H1 (H1.push (.cells [.slice a1 data.length c1,.slice a2 par.length c2] .ex 1)) := ⟨Nat.le_succ _,cB,keep_push hc1 _⟩
 refine (concat_okJ data par (by omega) (by omega) (by omega) (by omega) H1.n _ _ .ex _ (cellsOf_new _ _ _ _) (Sl.keep s1 gP.m) (Sl.keep s2 gP.m)).mono' ?_
 rintro v2 H2 hc2 _ n2
 simp
 obtain ⟨nm,q,hx,g⟩ := n2
 exact ⟨nm,q,fun x e => Nat.le_trans (n1.gr.trans gP).n (hx x e),(n1.gr.trans gP).trans g⟩
theorem rssize_ok (c f n k : Nat) (gv : Value) (h : Heap) (hc : CodeK h c f n k gv) : ACalls Tryz.prog 163 [.pointer (some ⟨c,0,none⟩)] h fun r h' => r = .tuple #[.int .i64 (n : Int),.int .i64 (k : Int)] ∧ h' = h := by
 refine acalls_of mix Tryz.func163 k163 n163 (by simp) fun hcl hb => ?_
 have hq := ptrq
 have c1 := hc.1
 simp [c163,hq,c1,apart]
structure SyS where
 i : Nat
 v : Value
 H : Heap
theorem synd_ok (c f n k : Nat) (gv : Value) (hk : 1 ≤ k) (hnk : k < n) (hn : n ≤ 255) (hp : n - k ≤ 64) (w : List UInt8) (hw : w.length = n) (v : Value) (h : Heap) (hc : CodeK h c f n k gv) (hl : SlB h v w) :
  ACalls Tryz.prog 162 [.pointer (some ⟨c,0,none⟩),v] h fun r h' => ∃ vr,r = .tuple #[vr,.int .i64 0] ∧ NewB h h' vr ((List.range (n - k)).map fun j => Pl.ev (Pl.al j) w) := by
 refine acalls_of mix Tryz.func162 k162 n162 (by simp) fun hcl hb => ?_
 have hq := ptrq
 have c1 := hc.1
 have bc := cellsOf_lt hcl c1
 have bl := Sl.below hl hcl
 obtain ⟨p,hpe⟩ : ∃ p,n - k = p := ⟨_,rfl⟩
 have w0 : IntKind.i64.wrap ((n : Int) - (k : Int)) = (p : Int) := wI (by omega)
 rw [hpe]
 obtain ⟨a,cc,rfl⟩ := Sl.form hl
 simp [c162,hq,c1,apart,w0,hw]
 refine awp_loop_of (α := SyS) (fun z => z.i ≤ p ∧ NewB h z.H z.v ((List.range z.i).map fun j => Pl.ev (Pl.al j) w)) (fun z => [(0,.pointer (some ⟨c,0,none⟩)),(1,.slice a n cc),(6,z.v),(27,.int .i64 p),(28,.int .i64 z.i)]) (fun z => z.H) (fun z => p - z.i) ⟨0,.slice none 0 0,h⟩
  ⟨Nat.zero_le _,NewB.nil hcl⟩ (Heap.Sub.refl hcl) (by rw [hw] at bl; simp; exact ⟨.ptr bc,bl,.snil,.int,.int⟩) ?_
 rintro ⟨i,v,H⟩ ⟨hi,nb⟩
 dsimp only at hi nb ⊢
 have gH := nb.gr
 have hll : ((List.range i).map fun j => Pl.ev (Pl.al j) w).length = i := by simp
 by_cases hlt : i < p
 ·have hi' : (i : Int) < (p : Int) := by omega
  have w4 := w64n (i := i) (by omega)
  have cH := cellsOf_keep gH.m c1
  simp [c162_0, hi', cH, apart, -Int.natCast_add]
  refine (gfexp_ok f i (by omega) H (hc.2.1.keep gH.m)).eqK ?_
  simp [cH,apart,-Int.natCast_add]
  have hl2 := Sl.keep hl gH.m
  rw [hw] at hl2
  refine (eval_okJ f w (Pl.al i) _ H (hc.2.1.keep gH.m) hl2 (by omega)).eqK ?_
  obtain ⟨a3,ev,v2,H2,happ,n2⟩ := nb.byte hcl (Pl.ev (Pl.al i) w) (by rw [hll]; omega)
  rw [hll] at ev happ
  have hfst := first1J H (Pl.ev (Pl.al i) w)
  have hlr : ((List.range i).map fun j => Pl.ev (Pl.al j) w) ++ [Pl.ev (Pl.al i) w] = (List.range (i + 1)).map fun j => Pl.ev (Pl.al j) w := by rw [List.range_succ,List.map_append]; rfl
  rw [hlr] at n2
  subst ev
  simp [fil1J,alen,hfst,happ,w4,-Int.natCast_add]
  rw [hw] at bl
  exact ⟨⟨i + 1,v2,H2⟩,by show p - (i + 1) < p - i; omega,⟨by show i + 1 ≤ p; omega,n2⟩,⟨n2.gr.n,Nat.le_refl _,fun _ _ e => e,n2.gr.cl⟩,.ptr (by show c < H2.n; have := n2.gr.n; omega),bl.mono n2.gr.n,⟨rfl,n2.below⟩,.int,rfl,.int⟩
 ·have hie : i = p := by omega
  subst hie
  simp [c162_0]
  exact nb
def c168 : AC := sO [oP 4 (.mv kF)] (sO [mV 8 0,mV 9 1,oP 10 (.call 162 [tP 8,tP 9]),mV 7 10,oP 11 (xR 7 0),oP 12 (xR 7 1),mV 5 11,mV 6 12] (sO [mV 13 6,oP 14 (bK .eql 13 0),mV 15 14,gP 16 15 true (.mv (tP 5)),gP 17 15 true (.call 191 [tP 16,.func 192]),gP 18 15 true (.un .not (tP 17)),oP 19 (pF 15 18),mV 4 19] .ret))
theorem k168 : compF Tryz.prog Tryz.f168 = some (c168,[4]) := by kernel_rfl
theorem n168 : Tryz.f168.ntmps = 20 := by kernel_rfl
def c192 : AC := sO [oP 2 (.mv kF)] (sO [mV 3 0,oP 4 (.bin .neq (tP 3) (.const (.int .u8 0))),mV 2 4] .ret)
theorem k192 : compF Tryz.prog Tryz.f192 = some (c192,[2]) := by kernel_rfl
theorem n192 : Tryz.f192.ntmps = 5 := by kernel_rfl
def c191 : AC := sO [oP 4 (.mv kF)] (sO [mV 5 0,mV 6 1,oP 7 (.call 209 [tP 5,tP 6]),oP 8 (bK .geq 7 0),mV 4 8] .ret)
theorem k191 : compF Tryz.prog Tryz.f191 = some (c191,[4]) := by kernel_rfl
theorem n191 : Tryz.f191.ntmps = 9 := by kernel_rfl
theorem ne0R_ok (b : UInt8) (h : Heap) : ACalls Tryz.prog 192 [.int .u8 (b.toNat : Int)] h fun v h' => v = .bool (decide (b ≠ 0)) ∧ h' = h := by
 refine acalls_of mix Tryz.func192 k192 n192 (by simp) fun hcl hb => ?_
 by_cases h0 : b = 0
 ·subst h0
  simp [c192]
 ·have h1 : ¬ (b.toNat = 0) := fun e => h0 (by rw [← UInt8.toNat_inj]; exact e)
  simp [c192,h0,h1]
theorem okNe0R : callOk Tryz.prog 192 = true := by kernel_rfl
theorem fnzI_all (l : List UInt8) : (0 ≤ fnzI l) = ¬ ∀ x ∈ l,x = 0 := by
 apply propext
 constructor
 ·intro h hall
  have := fnz_none (l := l) fun j hj => hall _ (List.getElem_mem hj)
  unfold fnzI at h
  rw [this] at h
  exact absurd h (by decide)
 ·intro h
  unfold fnzI
  cases hf : fnz l with
  | some i => exact Int.natCast_nonneg i
  | none =>
    exfalso
    apply h
    intro x hx
    unfold fnz at hf
    rw [List.findIdx?_eq_none_iff] at hf
    simpa using hf x hx
theorem connz_ok (l : List UInt8) (v : Value) (h : Heap) (hl : SlB h v l) (hn : l.length ≤ 1000000) :
  ACalls Tryz.prog 191 [v,.func (.func 192) #[] #[]] h fun r h' => r = .bool (decide (¬ ∀ x ∈ l,x = 0)) ∧ h' = h := by
 refine acalls_of mix Tryz.func191 k191 n191 (by simp) fun hcl hb => ?_
 have hf := fnzI_all l
 simp [c191]
 refine (ixnzG_ok _ okNe0R (fun x H => ne0R_ok x H) l v h hl hn).eqK ?_
 simp [hf]
def rightF (p : Nat) (w : List UInt8) : Prop := ∀ j,j < p → Pl.ev (Pl.al j) w = 0
theorem rsright_ok (c f n k : Nat) (gv : Value) (hk : 1 ≤ k) (hnk : k < n) (hn : n ≤ 255) (hp : n - k ≤ 64) (w : List UInt8) (hw : w.length = n) (v : Value) (h : Heap) (hc : CodeK h c f n k gv) (hl : SlB h v w) :
  ACalls Tryz.prog 168 [.pointer (some ⟨c,0,none⟩),v] h fun r h' => r = .bool (@decide (rightF (n - k) w) (Classical.propDecidable _)) ∧ Gr h h' := by
 refine acalls_of mix Tryz.func168 k168 n168 (by simp) fun hcl hb => ?_
 have hq := ptrq
 simp [c168]
 refine (synd_ok c f n k gv hk hnk hn hp w hw v h hc hl).mono' ?_
 rintro _ H1 hc1 _ ⟨vr,rfl,n1⟩
 have s1 := n1.sl
 obtain ⟨a1,c1,rfl⟩ := Sl.form s1
 have hR : (rightF (n - k) w) = ∀ x ∈ (List.range (n - k)).map (fun j => Pl.ev (Pl.al j) w),x = 0 := by unfold rightF; simp
 have hL : ((List.range (n - k)).map fun j => Pl.ev (Pl.al j) w).length = n - k := by simp
 rw [hL] at s1
 simp
 refine (connz_ok _ _ H1 s1 (by rw [hL]; omega)).eqK ?_
 have g1 := n1.gr
 by_cases hr : rightF (n - k) w
 ·have hr' := hr
  rw [hR] at hr'
  have e1 := eq_true hr'
  have e2 := eq_true hr
  simp only [e1,e2,not_true_eq_false,decide_true,decide_false]
  simp [aun]
  exact g1
 ·have hr' := hr
  rw [hR] at hr'
  have e1 := eq_false (fun q => hr' q)
  have e2 := eq_false hr
  simp only [e1,e2,not_false_eq_true,decide_true,decide_false]
  simp [aun]
  exact g1
def c164 : AC := sO [oP 3 (.mv kF)] (sO [mV 4 0,oP 5 (bK .lss 4 0),mV 6 5,gP 7 6 false (.mv (tP 0)),gP 8 6 false (lN 1),gP 9 6 false (bT .geq 7 8),oP 10 (pT 6 9),mV 3 10] .ret)
theorem k164 : compF Tryz.prog Tryz.f164 = some (c164,[3]) := by kernel_rfl
theorem n164 : Tryz.f164.ntmps = 11 := by kernel_rfl
def c135 : AC := sO [oP 4 (.mv kF)] (sO [mV 5 0,mV 6 1,oP 7 (.call 160 [tP 5,tP 6]),oP 8 (bK .geq 7 0),mV 4 8] .ret)
theorem k135 : compF Tryz.prog Tryz.f135 = some (c135,[4]) := by kernel_rfl
theorem n135 : Tryz.f135.ntmps = 9 := by kernel_rfl
def c160_0 : AC := sO [oP 9 (bT .lss 8 7)] (.seq (cT 9 .skip (.exit 0)) (.seq (.block 1 (sO [mV 10 8,mV 5 10] (sO [mV 11 1,mV 12 0,mV 13 5,oP 14 (iA 1 12 13),oP 15 (lN 14),oP 16 (.callv (tP 11) [tP 15])] (cT 16 (sO [mV 17 5,mV 4 17] .ret) .skip)))) (.ops [oP 18 (bK .add 8 1),mV 8 18])))
def c160 : AC := sO [oP 4 (.mv (kI 0))] (.seq (sO [mV 6 0,oP 7 (lS 6),oP 8 (.mv (kI 0))] (.block 0 (.loop c160_0))) (sO [oP 4 (.mv (.const (.int .i64 (-1))))] .ret))
theorem k160 : compF Tryz.prog Tryz.f160 = some (c160,[4]) := by kernel_rfl
theorem n160 : Tryz.f160.ntmps = 19 := by kernel_rfl
def c165_2 : AC := .seq (sO [mV 29 5,mV 30 4,oP 31 (lS 30),oP 32 (bT .lss 29 31)] (cT 32 .skip (.exit 2))) (.seq (.block 3 (.seq (.draw [([mV 35 4,mV 36 5,oP 37 (iA 1 35 36),oP 38 (lN 37),mV 39 4,mV 40 5,oP 41 (bK .sub 40 1),oP 42 (iA 1 39 41),oP 43 (lN 42),oP 44 (bT .neq 38 43)],[],[])]) (cT 44 (sO [mV 45 0,mV 46 3,mV 47 4,mV 48 5,oP 49 (iA 1 47 48),oP 50 (lN 49),oP 51 (iA 1 45 46),nP (.store 1 (tP 51) (tP 50))] (.ops [mV 52 3,oP 53 (bK .add 52 1),mV 3 53])) .skip))) (.ops [mV 33 5,oP 34 (bK .add 33 1),mV 5 34]))
def c165_0 : AC := .seq (sO [mV 10 3,mV 11 0,oP 12 (lS 11),oP 13 (bT .lss 10 12)] (cT 13 .skip (.exit 0))) (.seq (.block 1 (.seq (.draw [([mV 16 0,mV 17 3,oP 18 (iA 1 16 17),oP 19 (lN 18),mV 20 0,mV 21 3,oP 22 (bK .sub 21 1),oP 23 (iA 1 20 22),oP 24 (lN 23),oP 25 (bT .eql 19 24)],[],[])]) (cT 25 (sO [mV 26 0,mV 27 3,oP 28 (.slV 1 (tP 26) (some (tP 27)) none none),mV 4 28] (.seq (sO [oP 5 (.mv (kI 1))] (.block 2 (.loop c165_2))) (sO [mV 54 0,mV 55 3,oP 56 (.slV 1 (tP 54) (some (tP 55)) none none),nP (.clr [.int .i64 0] (tP 56))] (sO [mV 57 0,mV 58 3,oP 59 (.slV 1 (tP 57) none (some (tP 58)) none),mV 2 59] .ret)))) .skip))) (.ops [mV 14 3,oP 15 (bK .add 14 1),mV 3 15]))
def c165 : AC := sO [oP 2 (.mv (.const (.slice none 0 0)))] (.seq (sO [mV 6 0,oP 7 (lS 6),oP 8 (bK .lss 7 2)] (cT 8 (sO [mV 9 0,mV 2 9] .ret) .skip)) (.seq (sO [oP 3 (.mv (kI 1))] (.block 0 (.loop c165_0))) (sO [mV 60 0,mV 2 60] .ret)))
theorem k165 : compF Tryz.prog Tryz.f165 = some (c165,[2]) := by kernel_rfl
theorem n165 : Tryz.f165.ntmps = 61 := by kernel_rfl
def c170 : AC := sO [oP 2 (.mv (.const (.pointer none)))] (.seq (sO [mV 3 0,oP 4 (.eqv false .ptr (tP 3) (.const (.pointer none)))] (cT 4 (sO [oP 2 (.mv (.const (.pointer none)))] .ret) .skip)) (sO [mV 5 0,oP 6 (nC 5),oP 7 (fA 0 6),oP 8 (lN 7),mV 2 8] .ret))
theorem k170 : compF Tryz.prog Tryz.f170 = some (c170,[2]) := by kernel_rfl
theorem n170 : Tryz.f170.ntmps = 9 := by kernel_rfl
abbrev ei (x : Nat) : Value := .int .i64 (x : Int)
theorem over_ok (c f n k : Nat) (gv : Value) (h : Heap) (hc : CodeK h c f n k gv) : ACalls Tryz.prog 170 [.pointer (some ⟨c,0,none⟩)] h fun r h' => r = .pointer (some ⟨f,0,none⟩) ∧ h' = h := by
 refine acalls_of mix Tryz.func170 k170 n170 (by simp) fun hcl hb => ?_
 have hq := ptrq
 have c1 := hc.1
 simp [c170,hq,c1,apart]
theorem by1_ok (x n b : Nat) (m : BMode) (h : Heap) (hx : h.cellsOf b = some ([.int .i64 (n : Int)],m,1)) : ACalls Tryz.prog 164 [ei x,.pointer (some ⟨b,0,none⟩)] h fun r h' => r = .bool (decide (n ≤ x)) ∧ h' = h := by
 refine acalls_of mix Tryz.func164 k164 n164 (by simp) fun hcl hb => ?_
 have d : ¬ ((x : Int) < 0) := by omega
 simp [c164,ei,hx,apart,d]
theorem okBy1 : callOk Tryz.prog 164 = true := by kernel_rfl
def fov (n : Nat) (l : List Nat) : Int := match l.findIdx? fun x => decide (n ≤ x) with | some i => (i : Int) | none => -1
theorem ixov_ok (n b : Nat) (m : BMode) (l : List Nat) (v : Value) (h : Heap) (hx : h.cellsOf b = some ([.int .i64 (n : Int)],m,1)) (hl : Sl ei h v l) (hn : l.length ≤ 1000000) :
  ACalls Tryz.prog 160 [v,.func (.func 164) #[] #[.pointer (some ⟨b,0,none⟩)]] h fun r h' => r = .int .i64 (fov n l) ∧ h' = h := by
 refine acalls_of mix Tryz.func160 k160 n160 (by simp) fun hcl hb => ?_
 have bl := Sl.below hl hcl
 have bF : VBelow h.n (.func (.func 164) #[] #[.pointer (some ⟨b,0,none⟩)]) := hb _ (by simp)
 obtain ⟨a,c,rfl⟩ := Sl.form hl
 simp [c160]
 refine awp_loop_of (α := Nat) (fun i => i ≤ l.length ∧ ∀ j (hj : j < l.length),j < i → ¬ (n ≤ l[j])) (fun i => [(0,.slice a l.length c),(1,.func (.func 164) #[] #[.pointer (some ⟨b,0,none⟩)]),(7,.int .i64 l.length),(8,.int .i64 i)]) (fun _ => h) (fun i => l.length - i) 0
  ⟨Nat.zero_le _,fun _ _ k => absurd k (by omega)⟩ (Heap.Sub.refl hcl) (by simp; exact ⟨bl,bF,.int,.int⟩) ?_
 rintro i ⟨hil,hany⟩
 by_cases hlt : i < l.length
 ·have hi' : (i : Int) < (l.length : Int) := by omega
  have w4 := w64n (i := i) (by omega)
  obtain ⟨b1,o1,cs1,m1,e1,rfl,_,g1,g1'⟩ := Sl.at hl hlt
  obtain ⟨x,hxx⟩ : ∃ x,l[i] = x := ⟨_,rfl⟩
  rw [hxx] at g1'
  simp [c160_0, hi', aidx_of hlt, g1, apart, g1', okBy1, -Int.natCast_add]
  refine (by1_ok x n b m h hx).mono ?_
  rintro v1 h1 ⟨rfl,e⟩
  rw [e]; clear e h1
  by_cases h0 : n ≤ x
  ·have hf : l.findIdx? (fun x => decide (n ≤ x)) = some i := by
    rw [List.findIdx?_eq_some_iff_getElem]
    exact ⟨hlt,by rw [hxx]; simpa using h0,fun j hj => by simpa using hany j (by omega) hj⟩
   have hI : fov n l = (i : Int) := by unfold fov; rw [hf]
   simp [h0,hI]
  ·simp [h0,w4,-Int.natCast_add]
   refine ⟨i + 1,by omega,⟨by omega,fun j hj hji => ?_⟩,Heap.Sub.refl hcl,bl,bF,.int,rfl,.int⟩
   rcases Nat.lt_or_eq_of_le (Nat.lt_succ_iff.1 hji) with k | rfl
   ·simpa using hany j hj k
   ·rw [hxx]; simpa using h0
 ·have hie : i = l.length := by omega
  subst hie
  have hf : l.findIdx? (fun x => decide (n ≤ x)) = none := by
   rw [List.findIdx?_eq_none_iff]
   intro x hx
   obtain ⟨j,hj,rfl⟩ := List.getElem_of_mem hx
   simpa using hany j hj hj
  have hI : fov n l = -1 := by unfold fov; rw [hf]
  simp [c160_0,hI]
theorem fov_all (n : Nat) (l : List Nat) : (0 ≤ fov n l) = ¬ ∀ x ∈ l,x < n := by
 apply propext
 unfold fov
 cases hf : l.findIdx? fun x => decide (n ≤ x) with
 | none =>
   rw [List.findIdx?_eq_none_iff] at hf
   constructor
   ·intro h; exact absurd h (by decide)
   ·intro h; exact absurd (fun x hx => by simpa using hf x hx) h
 | some i =>
   rw [List.findIdx?_eq_some_iff_getElem] at hf
   obtain ⟨hi,h1,_⟩ := hf
   constructor
   ·intro _ h
    have := h _ (List.getElem_mem hi)
    have h2 : n ≤ l[i] := by simpa using h1
    omega
   ·intro _; exact Int.natCast_nonneg i
theorem conov_ok (n b : Nat) (m : BMode) (l : List Nat) (v : Value) (h : Heap) (hx : h.cellsOf b = some ([.int .i64 (n : Int)],m,1)) (hl : Sl ei h v l) (hn : l.length ≤ 1000000) :
  ACalls Tryz.prog 135 [v,.func (.func 164) #[] #[.pointer (some ⟨b,0,none⟩)]] h fun r h' => r = .bool (decide (¬ ∀ x ∈ l,x < n)) ∧ h' = h := by
 refine acalls_of mix Tryz.func135 k135 n135 (by simp) fun hcl hb => ?_
 have hf := fov_all n l
 simp [c135]
 refine (ixov_ok n b m l v h hx hl hn).eqK ?_
 simp [hf]
theorem compD_ok (l : List Nat) (v : Value) (h : Heap) (hl : Sl ei h v l) (hn : l.length ≤ 1000000) (hd : ∀ i,i + 1 < l.length → l[i + 1]! ≠ l[i]!) :
  ACalls Tryz.prog 165 [v] h fun r h' => r = v ∧ h' = h := by
 refine acalls_of mix Tryz.func165 k165 n165 (by simp) fun hcl hb => ?_
 have bl := Sl.below hl hcl
 obtain ⟨a,c,rfl⟩ := Sl.form hl
 by_cases h2 : l.length < 2
 ·have h2' : (l.length : Int) < 2 := by omega
  simp [c165,h2']
 ·have h2' : ¬ (l.length : Int) < 2 := by omega
  simp [c165,h2']
  refine awp_loop_of (α := Nat) (fun i => 1 ≤ i ∧ i ≤ l.length) (fun i => [(0,.slice a l.length c),(3,.int .i64 (i : Int))]) (fun _ => h) (fun i => l.length - i) 1
   (by omega) (Heap.Sub.refl hcl) (by simp; exact ⟨bl,.int⟩) ?_
  rintro i ⟨hi1,hi2⟩
  by_cases hlt : i < l.length
  ·have hi' : (i : Int) < (l.length : Int) := by omega
   have w4 := w64n (i := i) (by omega)
   have w5 : IntKind.i64.wrap ((i : Int) - 1) = ((i - 1 : Nat) : Int) := wI (by omega)
   have hlt2 : i - 1 < l.length := by omega
   obtain ⟨b1,o1,cs1,m1,e1,rfl,_,g1,g1'⟩ := Sl.at hl hlt
   obtain ⟨b2,o2,cs2,m2,e2,q,_,g2,g2'⟩ := Sl.at hl hlt2
   cases q
   rw [g1] at g2
   cases g2
   have hne := hd (i - 1) (by omega)
   rw [show i - 1 + 1 = i by omega,getElem!_pos l i hlt,getElem!_pos l (i - 1) hlt2] at hne
   generalize l[i] = x at *
   generalize l[i - 1] = y at *
   have hne' : ¬ ((x : Int) = (y : Int)) := by omega
   simp [c165_0, hi', aidx_of hlt, aidx_of hlt2, w5, g1, apart, g1', g2', ei, hne', w4, -Int.natCast_add]
   exact ⟨i + 1,by omega,by omega,Heap.Sub.refl hcl,bl,rfl,.int⟩
  ·have hie : i = l.length := by omega
   subst hie
   simp [c165_0]
namespace Pl
def vl (a : List UInt8) (x : UInt8) : UInt8 := ev x a.reverse
theorem vl_nil (x : UInt8) : vl [] x = 0 := rfl
theorem vl_cons (c : UInt8) (a : List UInt8) (x : UInt8) : vl (c :: a) x = c ^^^ gm x (vl a x) := by
 unfold vl
 rw [List.reverse_cons,ev_snoc,gm_comm,UInt8.xor_comm]
theorem vl_zeros {a : List UInt8} (h : ∀ i,a.getD i 0 = 0) (x : UInt8) : vl a x = 0 := by
 induction a with
 | nil => rfl
 | cons c a ih =>
   have h0 : c = 0 := h 0
   rw [vl_cons,ih fun i => h (i + 1),h0,gm_zero]; rfl
theorem vl_ext : ∀ {a b : List UInt8},(∀ i,a.getD i 0 = b.getD i 0) → ∀ x,vl a x = vl b x
 | [],b,h,x => by rw [vl_nil,vl_zeros fun i => (h i).symm]
 | c :: a,[],h,x => by rw [vl_nil,vl_zeros fun i => h i]
 | c :: a,d :: b,h,x => by
   have h0 : c = d := h 0
   rw [vl_cons,vl_cons,h0,vl_ext (a := a) (b := b) fun i => h (i + 1)]
def addL : List UInt8 → List UInt8 → List UInt8
 | [],b => b
 | a,[] => a
 | x :: a,y :: b => (x ^^^ y) :: addL a b
theorem addL_get : ∀ (a b : List UInt8) (i : Nat),(addL a b).getD i 0 = a.getD i 0 ^^^ b.getD i 0
 | [],b,i => by show b.getD i 0 = 0 ^^^ _; simp
 | x :: a,[],i => by show (x :: a).getD i 0 = _ ^^^ 0; simp
 | x :: a,y :: b,0 => rfl
 | x :: a,y :: b,i + 1 => addL_get a b i
theorem addL_len : ∀ a b : List UInt8,(addL a b).length = max a.length b.length
 | [],b => by show b.length = max 0 b.length; omega
 | x :: a,[] => by show (x :: a).length = max (x :: a).length 0; omega
 | x :: a,y :: b => by show (addL a b).length + 1 = max (a.length + 1) (b.length + 1); rw [addL_len a b]; omega
theorem addL_vl (x : UInt8) : ∀ a b : List UInt8,vl (addL a b) x = vl a x ^^^ vl b x
 | [],b => by show vl b x = 0 ^^^ _; simp
 | c :: a,[] => by show vl (c :: a) x = _ ^^^ 0; simp
 | c :: a,d :: b => by
   show vl ((c ^^^ d) :: addL a b) x = _
   rw [vl_cons,vl_cons,vl_cons,addL_vl x a b,gm_xor,x4]
theorem vl_scale (y x : UInt8) : ∀ b : List UInt8,vl (b.map (gm y)) x = gm y (vl b x)
 | [] => by rw [List.map_nil,vl_nil,gm_zero]
 | c :: b => by rw [List.map_cons,vl_cons,vl_cons,vl_scale y x b,gm_xor,← gm_assoc,← gm_assoc,gm_comm x y]
def plusF (a b : List UInt8) (y : UInt8) : List UInt8 := addL a (0 :: b.map (gm y))
theorem plusF_len (a b : List UInt8) (y : UInt8) : (plusF a b y).length = max a.length (b.length + 1) := by unfold plusF; rw [addL_len]; simp
theorem plusF_get0 (a b : List UInt8) (y : UInt8) : (plusF a b y).getD 0 0 = a.getD 0 0 := by unfold plusF; rw [addL_get]; simp
theorem map_getD (y : UInt8) (b : List UInt8) (i : Nat) : (b.map (gm y)).getD i 0 = gm y (b.getD i 0) := by
 rw [List.getD_eq_getElem?_getD,List.getD_eq_getElem?_getD,List.getElem?_map]
 cases b[i]? with
 | none => show (0 : UInt8) = gm y 0; rw [gm_zero]
 | some c => rfl
theorem plusF_get (a b : List UInt8) (y : UInt8) (i : Nat) : (plusF a b y).getD (i + 1) 0 = a.getD (i + 1) 0 ^^^ gm y (b.getD i 0) := by
 unfold plusF
 rw [addL_get]
 congr 1
 exact map_getD y b i
theorem plusF_vl (a b : List UInt8) (y x : UInt8) : vl (plusF a b y) x = vl a x ^^^ gm (gm y x) (vl b x) := by
 unfold plusF
 rw [addL_vl,vl_cons,vl_scale,UInt8.zero_xor,← gm_assoc,gm_comm x y]
theorem getD_ext {a b : List UInt8} (hl : a.length = b.length) (h : ∀ i,a.getD i 0 = b.getD i 0) : a = b := by
 refine List.ext_getElem hl fun i h1 h2 => ?_
 have := h i
 rwa [List.getD_eq_getElem?_getD,List.getD_eq_getElem?_getD,List.getElem?_eq_getElem h1,List.getElem?_eq_getElem h2] at this
def mulX (a : List UInt8) (X : UInt8) : List UInt8 := plusF a a X
theorem mulX_len (a : List UInt8) (X : UInt8) : (mulX a X).length = a.length + 1 := by unfold mulX; rw [plusF_len]; omega
theorem mulX_vl (a : List UInt8) (X x : UInt8) : vl (mulX a X) x = gm (vl a x) (1 ^^^ gm X x) := by
 unfold mulX
 rw [plusF_vl,gm_xor,gm_one,gm_comm (gm X x)]
theorem mulX_comm (a : List UInt8) (X Y : UInt8) : mulX (mulX a X) Y = mulX (mulX a Y) X := by
 refine getD_ext (by rw [mulX_len,mulX_len,mulX_len,mulX_len]) fun i => ?_
 match i with
 | 0 => unfold mulX; rw [plusF_get0,plusF_get0,plusF_get0,plusF_get0]
 | 1 => unfold mulX; rw [plusF_get,plusF_get,plusF_get,plusF_get,plusF_get0,plusF_get0]; ac_rfl
 | i + 2 =>
   unfold mulX
   rw [plusF_get,plusF_get,plusF_get,plusF_get,plusF_get,plusF_get,gm_xor,gm_xor,← gm_assoc,← gm_assoc,gm_comm X Y]
   ac_rfl
def locs (Xs : List UInt8) : List UInt8 := Xs.foldl mulX [1]
theorem locs_len (Xs : List UInt8) : (locs Xs).length = Xs.length + 1 := by
 have : ∀ (Xs : List UInt8) a,(Xs.foldl mulX a).length = a.length + Xs.length := fun Xs => by
  induction Xs with
  | nil => intro a; rfl
  | cons X r ih => intro a; rw [List.foldl_cons,ih,mulX_len]; simp; omega
 unfold locs
 rw [this]; simp; omega
theorem locs_snoc (Xs : List UInt8) (X : UInt8) : locs (Xs ++ [X]) = mulX (locs Xs) X := by unfold locs; rw [List.foldl_append]; rfl
theorem locs_perm {Xs Ys : List UInt8} (h : Xs.Perm Ys) : locs Xs = locs Ys := by
 have key : ∀ a,Xs.foldl mulX a = Ys.foldl mulX a := by
  induction h with
  | nil => exact fun _ => rfl
  | cons X _ ih => intro a; rw [List.foldl_cons,List.foldl_cons]; exact ih _
  | swap X Y l => intro a; rw [List.foldl_cons,List.foldl_cons,List.foldl_cons,List.foldl_cons,mulX_comm]
  | trans _ _ ih1 ih2 => exact fun a => (ih1 a).trans (ih2 a)
 exact key [1]
theorem locs_erase {Xs : List UInt8} {X : UInt8} (h : X ∈ Xs) : locs Xs = mulX (locs (Xs.erase X)) X := by
 rw [← locs_snoc]
 refine locs_perm ?_
 exact (List.perm_cons_erase h).trans (List.perm_append_singleton X _).symm
theorem locs_vl (x : UInt8) : ∀ (Xs : List UInt8),vl (locs Xs) x = Xs.foldl (fun a X => gm a (1 ^^^ gm X x)) 1 := by
 have : ∀ (Xs : List UInt8) a,vl (Xs.foldl mulX a) x = Xs.foldl (fun a X => gm a (1 ^^^ gm X x)) (vl a x) := fun Xs => by
  induction Xs with
  | nil => intro a; rfl
  | cons X r ih => intro a; rw [List.foldl_cons,ih,mulX_vl]; rfl
 intro Xs
 have h1 : vl [1] x = 1 := by rw [vl_cons,vl_nil,gm_zero]; rfl
 unfold locs
 rw [this,h1]
theorem prod_zero {x X : UInt8} (hx : gm X x = 1) : ∀ (Xs : List UInt8) (a : UInt8),X ∈ Xs ∨ a = 0 → Xs.foldl (fun a X => gm a (1 ^^^ gm X x)) a = 0
 | [],a,h => by rcases h with h | h; cases h; exact h
 | Z :: r,a,h => by
   rw [List.foldl_cons]
   refine prod_zero hx r _ ?_
   rcases h with h | h
   ·rcases List.mem_cons.1 h with rfl | h
    ·right; rw [hx,xself,gm_zero]
    ·exact .inl h
   ·right; rw [h,zero_gm]
theorem prod_ne {x : UInt8} : ∀ (Xs : List UInt8) (a : UInt8),a ≠ 0 → (∀ X ∈ Xs,gm X x ≠ 1) → Xs.foldl (fun a X => gm a (1 ^^^ gm X x)) a ≠ 0
 | [],a,h,_ => h
 | Z :: r,a,h,hX => by
   rw [List.foldl_cons]
   exact prod_ne r _ (gm_ne h fun e => hX Z (by simp) (xeq e).symm) fun X hm => hX X (by simp [hm])
def sx : Nat → (Nat → UInt8) → UInt8
 | 0,_ => 0
 | n + 1,f => sx n f ^^^ f n
theorem sx_shift (f : Nat → UInt8) : ∀ n,sx (n + 1) f = f 0 ^^^ sx n fun j => f (j + 1)
 | 0 => by show 0 ^^^ f 0 = f 0 ^^^ 0; simp
 | n + 1 => by
   show sx (n + 1) f ^^^ f (n + 1) = f 0 ^^^ (sx n (fun j => f (j + 1)) ^^^ f (n + 1))
   rw [sx_shift f n]; ac_rfl
theorem sx_xor (f g : Nat → UInt8) : ∀ n,sx n (fun j => f j ^^^ g j) = sx n f ^^^ sx n g
 | 0 => by show (0 : UInt8) = 0 ^^^ 0; simp
 | n + 1 => by show sx n _ ^^^ (f n ^^^ g n) = (sx n f ^^^ f n) ^^^ (sx n g ^^^ g n); rw [sx_xor f g n]; ac_rfl
theorem sx_gm (c : UInt8) (f : Nat → UInt8) : ∀ n,sx n (fun j => gm c (f j)) = gm c (sx n f)
 | 0 => (gm_zero c).symm
 | n + 1 => by show sx n _ ^^^ _ = gm c (sx n f ^^^ f n); rw [sx_gm c f n,gm_xor]
theorem sx_ext {f g : Nat → UInt8} : ∀ {n},(∀ j,j < n → f j = g j) → sx n f = sx n g
 | 0,_ => rfl
 | n + 1,h => by show sx n f ^^^ f n = sx n g ^^^ g n; rw [sx_ext fun j hj => h j (by omega),h n (by omega)]
theorem sx_zero : ∀ n,sx n (fun _ => 0) = 0
 | 0 => rfl
 | n + 1 => by show sx n _ ^^^ 0 = 0; rw [sx_zero n]; rfl
theorem sx_rev (f : Nat → UInt8) : ∀ n,sx n f = sx n fun j => f (n - 1 - j)
 | 0 => rfl
 | n + 1 => by
   rw [sx_shift (fun j => f (n + 1 - 1 - j)) n]
   show sx n f ^^^ f n = f (n + 1 - 1 - 0) ^^^ _
   rw [sx_rev f n,UInt8.xor_comm]
   congr 1
   refine sx_ext fun j hj => ?_
   show f (n - 1 - j) = f (n + 1 - 1 - (j + 1))
   congr 1
   omega
theorem pw_succ (X : UInt8) (n : Nat) : pw X (n + 1) = gm (pw X n) X := rfl
theorem tele (M : List UInt8) (X : UInt8) : ∀ i,sx (i + 1) (fun j => gm (pw X j) ((mulX M X).getD (i - j) 0)) = M.getD i 0
 | 0 => by
   show 0 ^^^ gm 1 ((mulX M X).getD 0 0) = _
   rw [one_gm,UInt8.zero_xor]
   exact plusF_get0 M M X
 | i + 1 => by
   rw [sx_shift]
   have ih := tele M X i
   have e : (sx (i + 1) fun j => gm (pw X (j + 1)) ((mulX M X).getD (i + 1 - (j + 1)) 0)) = gm X (M.getD i 0) := by
    rw [← ih,← sx_gm]
    refine sx_ext fun j hj => ?_
    rw [pw_succ,gm_comm (pw X j) X,gm_assoc]
    congr 3
    omega
   rw [e]
   show gm 1 ((mulX M X).getD (i + 1) 0) ^^^ _ = _
   rw [one_gm]
   unfold mulX
   rw [plusF_get,UInt8.xor_assoc,xself]
   simp
theorem omega_at (Xs : List UInt8) (i : Nat) : ∀ L : List (UInt8 × UInt8),(∀ q ∈ L,q.1 ∈ Xs) → sx (i + 1) (fun j => gm (ps L j) ((locs Xs).getD (i - j) 0)) = L.foldr (fun q a => gm q.2 ((locs (Xs.erase q.1)).getD i 0) ^^^ a) 0
 | [],_ => by
   rw [sx_ext (g := fun _ => 0) fun j _ => by show gm 0 _ = 0; rw [zero_gm]]
   exact sx_zero _
 | q :: L,h => by
   have ih := omega_at Xs i L fun r hr => h r (by simp [hr])
   rw [List.foldr_cons,← ih]
   have ht := tele (locs (Xs.erase q.1)) q.1 i
   rw [← locs_erase (h q (by simp))] at ht
   rw [← ht,← sx_gm,← sx_xor]
   refine sx_ext fun j _ => ?_
   rw [ps_cons,xor_gm,gm_assoc]
end Pl
namespace Pl
def omF (p : Nat) (s loc : List UInt8) : List UInt8 := (List.range p).map fun i => sx (i + 1) fun j => gm (s.getD j 0) (loc.getD (i - j) 0)
theorem omF_get (p : Nat) (s loc : List UInt8) (i : Nat) (h : i < p) : (omF p s loc).getD i 0 = sx (i + 1) fun j => gm (s.getD j 0) (loc.getD (i - j) 0) := by
 unfold omF
 rw [List.getD_eq_getElem?_getD,List.getElem?_map,List.getElem?_range h]
 rfl
theorem omF_len (p : Nat) (s loc : List UInt8) : (omF p s loc).length = p := by unfold omF; simp
theorem getD_ge {a : List UInt8} {i : Nat} (h : a.length ≤ i) : a.getD i 0 = 0 := by
 rw [List.getD_eq_getElem?_getD,List.getElem?_eq_none h]; rfl
def wsum (Xs : List UInt8) : List (UInt8 × UInt8) → List UInt8
 | [] => []
 | q :: L => addL ((locs (Xs.erase q.1)).map (gm q.2)) (wsum Xs L)
theorem wsum_get (Xs : List UInt8) (i : Nat) : ∀ L,(wsum Xs L).getD i 0 = L.foldr (fun q a => gm q.2 ((locs (Xs.erase q.1)).getD i 0) ^^^ a) 0
 | [] => rfl
 | q :: L => by
   show (addL _ (wsum Xs L)).getD i 0 = _
   rw [addL_get,map_getD,wsum_get Xs i L]; rfl
theorem wsum_vl (Xs : List UInt8) (x : UInt8) : ∀ L,vl (wsum Xs L) x = L.foldr (fun q a => gm q.2 (vl (locs (Xs.erase q.1)) x) ^^^ a) 0
 | [] => rfl
 | q :: L => by
   show vl (addL _ (wsum Xs L)) x = _
   rw [addL_vl,vl_scale,wsum_vl Xs x L]; rfl
theorem wsum_hi (Xs : List UInt8) (i : Nat) (h : Xs.length ≤ i) : ∀ L : List (UInt8 × UInt8),(∀ q ∈ L,q.1 ∈ Xs) → (wsum Xs L).getD i 0 = 0
 | [],_ => rfl
 | q :: L,hq => by
   show (addL _ (wsum Xs L)).getD i 0 = 0
   rw [addL_get,map_getD,wsum_hi Xs i h L fun r hr => hq r (by simp [hr]),getD_ge,gm_zero]
   ·rfl
   ·rw [locs_len,List.length_erase_of_mem (hq q (by simp))]
    have : 0 < Xs.length := List.length_pos_of_mem (hq q (by simp))
    omega
theorem omF_vl {Xs : List UInt8} {L : List (UInt8 × UInt8)} (hL : ∀ q ∈ L,q.1 ∈ Xs) {p : Nat} (hp : Xs.length ≤ p) {s : List UInt8} (hs : ∀ i,i < p → s.getD i 0 = ps L i) (x : UInt8) :
  vl (omF p s (locs Xs)) x = L.foldr (fun q a => gm q.2 (vl (locs (Xs.erase q.1)) x) ^^^ a) 0 := by
 rw [← wsum_vl]
 refine vl_ext (fun i => ?_) x
 by_cases hi : i < p
 ·rw [omF_get _ _ _ _ hi,wsum_get,← omega_at Xs i L hL]
  exact sx_ext fun j hj => by rw [hs j (by omega)]
 ·rw [getD_ge (by rw [omF_len]; omega),wsum_hi Xs i (by omega) L hL]
theorem gap0 {Xs : List UInt8} {L : List (UInt8 × UInt8)} (hL : ∀ q ∈ L,q.1 ∈ Xs) {p : Nat} {s : List UInt8} (hs : ∀ i,i < p → s.getD i 0 = ps L i) {r : Nat} (h1 : Xs.length < r) (h2 : r ≤ p) :
  sx r (fun j => gm ((locs Xs).getD j 0) (s.getD (r - 1 - j) 0)) = 0 := by
 obtain ⟨i,rfl⟩ : ∃ i,r = i + 1 := ⟨r - 1,by omega⟩
 have h := omega_at Xs i L hL
 rw [← wsum_get,wsum_hi Xs i (by omega) L hL] at h
 rw [← h,sx_rev]
 refine sx_ext fun j hj => ?_
 rw [gm_comm,← hs j (by omega)]
 congr 2
 show i + 1 - 1 - (i + 1 - 1 - j) = j
 omega
def dvF (a : List UInt8) : List UInt8 := (List.range (a.length - 1)).map fun i => if i % 2 = 0 then a.getD (i + 1) 0 else 0
theorem dvF_get (a : List UInt8) (i : Nat) : (dvF a).getD i 0 = if i % 2 = 0 then a.getD (i + 1) 0 else 0 := by
 unfold dvF
 rw [List.getD_eq_getElem?_getD,List.getElem?_map]
 by_cases h : i < a.length - 1
 ·rw [List.getElem?_range h]; rfl
 ·rw [List.getElem?_eq_none (by simp; omega)]
  show (0 : UInt8) = _
  split
  ·rw [getD_ge (by omega)]
  ·rfl
def evn (a : List UInt8) : List UInt8 := (List.range a.length).map fun i => if i % 2 = 0 then a.getD i 0 else 0
theorem evn_get (a : List UInt8) (i : Nat) : (evn a).getD i 0 = if i % 2 = 0 then a.getD i 0 else 0 := by
 unfold evn
 rw [List.getD_eq_getElem?_getD,List.getElem?_map]
 by_cases h : i < a.length
 ·rw [List.getElem?_range h]; rfl
 ·rw [List.getElem?_eq_none (by simp; omega)]
  show (0 : UInt8) = _
  split
  ·rw [getD_ge (by omega)]
  ·rfl
theorem split_vl (a : List UInt8) (x : UInt8) : vl a x = vl (evn a) x ^^^ gm x (vl (dvF a) x) := by
 rw [← UInt8.zero_xor (a := gm x (vl (dvF a) x)),← vl_cons,← addL_vl]
 refine vl_ext (fun i => ?_) x
 rw [addL_get,evn_get]
 match i with
 | 0 => show _ = a.getD 0 0 ^^^ 0; simp
 | i + 1 =>
   show _ = _ ^^^ (dvF a).getD i 0
   rw [dvF_get]
   by_cases h : i % 2 = 0
   ·rw [if_neg (by omega),if_pos h,UInt8.zero_xor]
   ·rw [if_pos (by omega),if_neg h,UInt8.xor_zero]
theorem dvF_mulX (M : List UInt8) (X x : UInt8) (hx : gm X x = 1) : vl (dvF (mulX M X)) x = gm X (vl M x) := by
 have e : vl (dvF (mulX M X)) x = vl (dvF M) x ^^^ gm X (vl (evn M) x) := by
  rw [← vl_scale,← addL_vl]
  refine vl_ext (fun i => ?_) x
  rw [addL_get,map_getD,evn_get,dvF_get,dvF_get]
  unfold mulX
  rw [plusF_get]
  by_cases h : i % 2 = 0
  ·rw [if_pos h,if_pos h,if_pos h]
  ·rw [if_neg h,if_neg h,if_neg h,gm_zero]; rfl
 rw [e,split_vl M x,gm_xor,← gm_assoc,hx,one_gm,UInt8.xor_comm]
theorem fold_one {Xs : List UInt8} {X x : UInt8} (hX : X ∈ Xs) (hx : gm X x = 1) : ∀ (L : List (UInt8 × UInt8)),(L.map Prod.fst).Nodup → ∀ Y,(X,Y) ∈ L → L.foldr (fun q a => gm q.2 (vl (locs (Xs.erase q.1)) x) ^^^ a) 0 = gm Y (vl (locs (Xs.erase X)) x) := by
 have z : ∀ (L : List (UInt8 × UInt8)),X ∉ L.map Prod.fst → L.foldr (fun q a => gm q.2 (vl (locs (Xs.erase q.1)) x) ^^^ a) 0 = 0 := fun L => by
  induction L with
  | nil => intro _; rfl
  | cons q L ih =>
    intro h
    rw [List.map_cons,List.mem_cons,not_or] at h
    rw [List.foldr_cons,ih h.2,locs_vl,prod_zero hx (Xs.erase q.1) 1 (.inl ((List.mem_erase_of_ne h.1).2 hX)),gm_zero]; rfl
 intro L
 induction L with
 | nil => intro _ Y h; cases h
 | cons q L ih =>
   intro hd Y hm
   rw [List.map_cons,List.nodup_cons] at hd
   rcases List.mem_cons.1 hm with rfl | hm
   ·rw [List.foldr_cons,z L hd.1,UInt8.xor_zero]
   ·have hne : X ≠ q.1 := fun e => hd.1 (List.mem_map.2 ⟨(X,Y),hm,e⟩)
    rw [List.foldr_cons,ih hd.2 Y hm,locs_vl x (Xs.erase q.1),prod_zero hx (Xs.erase q.1) 1 (.inl ((List.mem_erase_of_ne hne).2 hX)),gm_zero,UInt8.zero_xor]
theorem forney {Xs : List UInt8} (hd : Xs.Nodup) (hne : ∀ X ∈ Xs,X ≠ 0) {L : List (UInt8 × UInt8)} (hL : ∀ q ∈ L,q.1 ∈ Xs) (hLd : (L.map Prod.fst).Nodup) {p : Nat} (hp : Xs.length ≤ p) {s : List UInt8} (hs : ∀ i,i < p → s.getD i 0 = ps L i)
  {X Y : UInt8} (hq : (X,Y) ∈ L) : vl (dvF (locs Xs)) (gi X) ≠ 0 ∧ gm X (gm (vl (omF p s (locs Xs)) (gi X)) (gi (vl (dvF (locs Xs)) (gi X)))) = Y := by
 have hX : X ∈ Xs := hL _ hq
 have hx : gm X (gi X) = 1 := gm_gi (hne X hX)
 have hM : vl (locs (Xs.erase X)) (gi X) ≠ 0 := by
  rw [locs_vl]
  refine prod_ne _ _ (by decide) fun Z hZ e => ?_
  have hZX : Z ≠ X := fun q => by rw [q] at hZ; exact (List.Nodup.not_mem_erase hd) hZ
  refine hZX (gm_cancel (gi_ne X) ?_)
  rw [gm_comm (gi X) Z,gm_comm (gi X) X,e,hx]
 have hdv : vl (dvF (locs Xs)) (gi X) = gm X (vl (locs (Xs.erase X)) (gi X)) := by
  rw [locs_erase hX]; exact dvF_mulX _ _ _ hx
 have hom : vl (omF p s (locs Xs)) (gi X) = gm Y (vl (locs (Xs.erase X)) (gi X)) := by
  rw [omF_vl hL hp hs]; exact fold_one hX hx L hLd Y hq
 have hn : vl (dvF (locs Xs)) (gi X) ≠ 0 := by rw [hdv]; exact gm_ne (hne X hX) hM
 refine ⟨hn,?_⟩
 rw [hom]
 generalize vl (locs (Xs.erase X)) (gi X) = P at *
 have h1 : gm (gm X P) (gi (vl (dvF (locs Xs)) (gi X))) = 1 := by rw [← hdv]; exact gm_gi hn
 rw [gm_assoc,← gm_assoc X Y,gm_comm X Y,gm_assoc Y X,← gm_assoc X P,h1,gm_one]
end Pl
end Go.Proofs.YtdnmkenamgfjoaaGreat.arba
