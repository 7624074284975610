/-
  Contracts.
-/
import Derived.Test.YtikpgnkegnedoaaGreatArbf
import Derived.Test.YtikpgnkegnedoaaGreatArbe
import Derived.Test.YtikpgnkegnedoaaGreatArbd
import Derived.Test.YtikpgnkegnedoaaGreatArbc
import Derived.Test.YtikpgnkegnedoaaGreatArbb
import Derived.Test.YtikpgnkegnedoaaGreatArba
import Derived.Test.YtikpgnkegnedoaaGreatSha
import Derived.Test.YtikpgnkegnedoaaGreatLin1
import Derived.Test.YtikpgnkegnedoaaGreatVers
import Derived.Test.YtikpgnkegnedoaaGreatStr
import Derived.Test.YtikpgnkegnedoaaGreatAbEnter
import Derived.Test.YtikpgnkegnedoaaGreatAbStep
import Derived.Test.YtikpgnkegnedoaaGreatProg
import Derived.IntWalk
import Derived.KernelRfl
set_option linter.unusedSimpArgs false
set_option linter.unusedVariables false
set_option linter.unusedSectionVars false
namespace Go.Proofs.YtikpgnkegnedoaaGreat.arbg
open Go Go.Ab Go.Proofs Go.RowKit Go.Proofs.YtikpgnkegnedoaaGreat.str Go.Proofs.YtikpgnkegnedoaaGreat.vers Go.Proofs.YtikpgnkegnedoaaGreat.lin1 Go.Proofs.YtikpgnkegnedoaaGreat.sha Go.Proofs.YtikpgnkegnedoaaGreat.arba Go.Proofs.YtikpgnkegnedoaaGreat.arbb Go.Proofs.YtikpgnkegnedoaaGreat.arbc Go.Proofs.YtikpgnkegnedoaaGreat.arbd Go.Proofs.YtikpgnkegnedoaaGreat.arbe Go.Proofs.YtikpgnkegnedoaaGreat.arbf
variable [Inhabited TabBox]
variable [Nonempty GF]
variable [Nonempty GE]
set_option maxRecDepth 100000
attribute [local simp] s_ops s_seq s_cond s_cond_t s_cond_f s_block s_exit s_ret s_skip s_then_n s_then_n' s_then_e s_then_e' s_then_r s_then_r' s_block_n s_block_r s_block_e s_post_r s_post_n s_res0 s_res1 s_res2 s_res3 s_res4 s_nil s_cons s_guard s_guard_tt s_guard_ff s_guard_tf s_guard_ft s_guard_u s_call s_kL s_put s_put0 s_set s_tmp s_const s_func s_glob s_init s_mkF s_mkF0 s_mv s_bin s_pick s_op aop oK_some oK_none bK_some bK_none b_add b_sub b_mul b_quo b_rem b_and b_or b_xor b_andNot b_shl b_shr b_eql b_neq b_lss b_leq b_gtr b_geq b_sadd b_seql b_sneq b_slss b_sleq b_sgtr b_sgeq s_draw s_drawT s_tK s_tT s_tF s_tB s_tR s_stage s_stage0 s_kW s_kR s_rc0 s_rc s_rcg rK_some rK_none rG_b rG_u s_callv s_callv_f s_nextM s_postR_r s_postR_n s_resA0 s_resAt s_resAc s_resC s_tup0 s_tup1 s_tup2 s_tup3
def c19_0 : AC := .seq (.seq (.ops [⟨some 6,none,.mv (.tmp 4)⟩,⟨some 7,none,.bin .lss (.tmp 6) (.const (.int .i64 60))⟩]) (.cond (.tmp 7) .skip (.exit 0))) (.seq (.block 1 (.ops [⟨some 10,none,.mv (.tmp 3)⟩,⟨some 11,none,.mv (.tmp 4)⟩,⟨some 12,none,.iAddrA 60 1 (.tmp 1) (.tmp 11)⟩,⟨some 13,none,.load none (.tmp 12)⟩,⟨some 14,none,.buildS 1 [.int .u8 0] [(0,1,.tmp 13)]⟩,⟨some 15,none,.app 1 1 5 (.tmp 10) (.tmp 14)⟩,⟨some 3,none,.mv (.tmp 15)⟩])) (.ops [⟨some 8,none,.mv (.tmp 4)⟩,⟨some 9,none,.bin .add (.tmp 8) (.const (.int .i64 1))⟩,⟨some 4,none,.mv (.tmp 9)⟩]))
def c19 : AC := .seq (.ops [⟨some 1,none,.box (.tmp 0)⟩,⟨some 2,none,.mv (.const (.string ⟨⟨[]⟩⟩))⟩]) (.seq (.ops [⟨some 5,none,.buildS 0 [] []⟩,⟨some 3,none,.mv (.tmp 5)⟩]) (.seq (.seq (.ops [⟨some 4,none,.mv (.const (.int .i64 0))⟩]) (.block 0 (.loop c19_0))) (.seq (.ops [⟨some 16,none,.mv (.tmp 3)⟩,⟨some 17,none,.toStr (.tmp 16)⟩,⟨some 2,none,.mv (.tmp 17)⟩]) .ret)))
theorem k19 : compF Tryz.prog Tryz.f19 = some (c19, [2]) := by kernel_rfl
theorem n19 : Tryz.f19.ntmps = 18 := by kernel_rfl
def c20_0 : AC := .seq (.ops [⟨some 20,none,.bin .lss (.tmp 19) (.tmp 18)⟩]) (.seq (.cond (.tmp 20) .skip (.exit 0)) (.seq (.block 1 (.seq (.ops [⟨some 21,none,.mv (.tmp 19)⟩,⟨some 6,none,.mv (.tmp 21)⟩]) (.seq (.draw [([⟨some 22,none,.mv (.tmp 0)⟩,⟨some 23,none,.nilck (.tmp 22)⟩,⟨some 24,none,.fAddr 1 (.tmp 23)⟩,⟨some 25,none,.load none (.tmp 24)⟩,⟨some 26,none,.mv (.tmp 1)⟩,⟨some 27,none,.mv (.tmp 0)⟩,⟨some 28,none,.nilck (.tmp 27)⟩,⟨some 29,none,.fAddr 2 (.tmp 28)⟩,⟨some 30,none,.load (some 3) (.tmp 29)⟩,⟨some 33,none,.mv (.tmp 6)⟩],[⟨some 31,none,.call 29 [.tmp 30]⟩],[⟨some 25,none,.load none (.tmp 24)⟩]),([⟨some 32,none,.bin .mul (.tmp 26) (.tmp 31)⟩,⟨some 34,none,.bin .add (.tmp 32) (.tmp 33)⟩],[⟨some 35,none,.call 45 [.tmp 25,.tmp 34]⟩],[]),([⟨some 7,none,.mv (.tmp 35)⟩],[],[])]) (.seq (.ops [⟨some 36,none,.mv (.tmp 7)⟩,⟨some 37,none,.bin .neq (.tmp 36) (.const (.int .i64 0))⟩]) (.cond (.tmp 37) (.seq (.ops [⟨some 38,none,.mv (.tmp 7)⟩,⟨some 4,none,.mv (.tmp 38)⟩]) .ret) .skip))))) (.ops [⟨some 39,none,.bin .add (.tmp 19) (.const (.int .i64 1))⟩,⟨some 19,none,.mv (.tmp 39)⟩])))
def c20 : AC := .seq (.ops [⟨some 4,none,.mv (.const (.int .i64 0))⟩]) (.seq (.seq (.ops [⟨some 8,none,.mv (.tmp 0)⟩,⟨some 9,none,.mv (.tmp 1)⟩,⟨some 10,none,.call 43 [.tmp 8,.tmp 9,.const (.int .i64 0)]⟩,⟨some 5,none,.mv (.tmp 10)⟩]) (.seq (.ops [⟨some 11,none,.mv (.tmp 5)⟩,⟨some 12,none,.bin .neq (.tmp 11) (.const (.int .i64 0))⟩]) (.cond (.tmp 12) (.seq (.ops [⟨some 13,none,.mv (.tmp 5)⟩,⟨some 4,none,.mv (.tmp 13)⟩]) .ret) .skip))) (.seq (.seq (.ops [⟨some 14,none,.mv (.tmp 0)⟩,⟨some 15,none,.nilck (.tmp 14)⟩,⟨some 16,none,.fAddr 2 (.tmp 15)⟩,⟨some 17,none,.load (some 3) (.tmp 16)⟩,⟨some 18,none,.call 29 [.tmp 17]⟩,⟨some 19,none,.mv (.const (.int .i64 0))⟩]) (.block 0 (.loop c20_0))) (.seq (.ops [⟨some 4,none,.mv (.const (.int .i64 0))⟩]) .ret)))
theorem k20 : compF Tryz.prog Tryz.f20 = some (c20, [4]) := by kernel_rfl
theorem n20 : Tryz.f20.ntmps = 40 := by kernel_rfl
theorem rtx_ok (b : List UInt8) (hb : b.length = 60) (h : Heap) : ACalls Tryz.prog 19 [agB b] h fun v h' => v = .string (bs b) ∧ Gr h h' := by
  refine acalls_of mix Tryz.func19 k19 n19 (by simp) fun hcl hbb => ?_
  have fil0 : afill [] [] = some [] := rfl
  have c1 : (h.push (.cells (ubs b) .ex 1)).Closed := closed_push hcl ubs_bel
  have g1 : Gr h (h.push (.cells (ubs b) .ex 1)) := ⟨Nat.le_succ _, c1, keep_push hcl _⟩
  have f1 := cellsOf_new h (ubs b) .ex 1
  have n1 : (h.push (.cells (ubs b) .ex 1)).n = h.n + 1 := rfl
  have hm : mcells (agB b) = some (ubs b) := rfl
  simp [c19, hm, fil0]
  generalize h.push (.cells (ubs b) .ex 1) = H1 at *
  have c2 : (H1.push (.cells [] .ex 1)).Closed := closed_push c1 (fun y hy => by cases hy)
  have g2 : Gr H1 (H1.push (.cells [] .ex 1)) := ⟨Nat.le_succ _, c2, keep_push c1 _⟩
  have f2 := cellsOf_keep g2.m f1
  have e2 := cellsOf_new H1 [] .ex 1
  have n2 : (H1.push (.cells [] .ex 1)).n = h.n + 1 + 1 := by show H1.n + 1 = _; rw [n1]
  have nb0 : NewB H1 (H1.push (.cells [] .ex 1)) (.slice (some ⟨H1.n, 0, none⟩) 0 0) [] := ⟨some H1.n, .inr ⟨H1.n, .ex, 1, rfl, rfl, e2, rfl, by simp, fun q => by simp [BMode.isLoose] at q⟩, fun u e => by have := Option.some.inj e; omega, g2⟩
  generalize H1.push (.cells [] .ex 1) = H2 at *
  rw [n1] at nb0
  refine awp_loop_of (α := CoS) (fun z => z.i ≤ 60 ∧ NewB H1 z.H z.v (b.take z.i)) (fun z => [(1, .pointer (some ⟨h.n, 0, none⟩)), (3, z.v), (4, .int .i64 z.i)]) (fun z => z.H) (fun z => 60 - z.i) ⟨0, .slice (some ⟨h.n + 1, 0, none⟩) 0 0, H2⟩
    ⟨Nat.zero_le _, nb0⟩ ⟨by have := g1.n; have := g2.n; show h.n ≤ H2.n; omega, Nat.le_refl _, fun _ _ e => e, c2⟩ (by simp; exact ⟨.ptr (by show h.n < _; omega), nb0.below, .int⟩) ?_
  rintro ⟨i, w, H⟩ ⟨hi, nb⟩
  dsimp only at hi nb ⊢
  have gH := nb.gr
  have g0 := g1.trans gH
  have fH := cellsOf_keep gH.m f1
  have bH := gH.n
  by_cases hlt : i < 60
  · have hi' : (i : Int) < 60 := by omega
    have w4 : IntKind.i64.wrap ((i : Int) + 1) = ((i + 1 : Nat) : Int) := by rw [IntWalk.i64_in _ (by omega)]; omega
    have hib : i < b.length := by omega
    have hpc : (ubs b)[i]? = some (.int .u8 ((b[i]).toNat : Int)) := ubs_get hib
    have hlen : (b.take i).length = i := by rw [List.length_take]; omega
    obtain ⟨a, ev, v2, H3, happ, n3⟩ := nb.byte c1 (b[i]) (by rw [hlen]; omega)
    rw [hlen] at ev happ
    rw [← List.take_succ_eq_append_getElem hib] at n3
    have hfst := first1J H (b[i])
    subst ev
    have ha60 : aidx (.int .i64 (i : Int)) 60 = some i := aidx_of hlt
    simp [c19_0, hi', ha60, fH, apart, hpc, fil1J, alen, hfst, happ, w4, -Int.natCast_add]
    exact ⟨⟨i + 1, v2, H3⟩, by show 60 - (i + 1) < 60 - i; omega, ⟨by show i + 1 ≤ 60; omega, n3⟩, ⟨(g1.trans n3.gr).n, Nat.le_refl _, fun _ _ e => e, n3.gr.cl⟩, .ptr (by have := n3.gr.n; show h.n < H3.n; omega), ⟨rfl, n3.below⟩, rfl, .int⟩
  · have hie : i = 60 := by omega
    subst hie
    rw [List.take_of_length_le (by omega)] at nb
    have hi' : ¬ (60 : Int) < 60 := by omega
    have gg := nb.gr
    obtain ⟨nm, q, _, _⟩ := nb
    rcases lat_str q with ⟨rfl, q1⟩ | ⟨x, rfl, q1⟩
    · rw [q1] at hb; simp at hb
    · simp [c19_0, q1, abytes_ubs, bs_mk]
      exact g1.trans gg
theorem wipe_lock (A : ArB) (V : DevS) (a : Nat) (ha : a ≤ 2) (h : Heap) (K : ArK h A V) (hlk : V.lock[secN A.D A.P A.S a 0 0]! = true) :
    ACalls Tryz.prog 20 [.pointer (some ⟨A.a, 0, none⟩), .int .i64 (a : Int)] h fun r h' => r = .int .i64 4 ∧ h' = h := by
  refine acalls_of mix Tryz.func20 k20 n20 (by simp) fun hcl hb => ?_
  obtain ⟨⟨hd1, hd8⟩, ⟨hp2, hp6⟩, hn1, hn8⟩ := right_prop.1 K.rt
  have hba := cellsOf_lt hcl K.ca
  have ca1 := K.ca
  have hsr := (slot_right K.rt).1
  have hlt0 := secN_lt K.rt ha (k := 0) (i := 0) (by omega) (by omega)
  have hsz := K.sz
  simp [c20]
  have t0 := there_ok A V a 0 h K
  rw [show thereF A.S a 0 = true from thereF_in (k := 0) ha (by omega)] at t0
  refine t0.mono ?_
  rintro _ h9 ⟨rfl, e⟩
  rw [e]; clear e h9
  simp [ca1, apart, acut_area, gva]
  refine (slot_ok A.D A.P A.S h).mono ?_
  rintro _ h9 ⟨rfl, e⟩
  rw [e]; clear e h9
  have hsb := slot_bound (d := A.D) (p := A.P) (s := A.S)
  obtain ⟨L, hL⟩ : ∃ L, slot (A.D : Int) A.P A.S = L := ⟨_, rfl⟩
  have hm1 : 1 * 1 ≤ (A.D + A.P) * A.S := Nat.mul_le_mul (by omega) (by omega)
  have hLn : L = (((A.D + A.P) * A.S : Nat) : Int) := by rw [← hL, hsr]; push_cast; rfl
  have hL0 : 0 < L := by omega
  have hsec : secN A.D A.P A.S a 0 0 = a * ((A.D + A.P) * A.S) := by unfold secN; omega
  have haL : (a : Int) * L = ((secN A.D A.P A.S a 0 0 : Nat) : Int) := by rw [hsec, hLn]; push_cast; rfl
  obtain ⟨n, hn⟩ : ∃ n, secN A.D A.P A.S a 0 0 = n := ⟨_, rfl⟩
  rw [hn] at hlk hlt0 haL
  have hnl : n < V.lock.length := by omega
  have hnl2 := K.du.nl
  have w1 : IntKind.i64.wrap ((a : Int) * L) = (n : Int) := by rw [haL, IntWalk.i64_in _ (by omega)]
  have w2 : IntKind.i64.wrap (n : Int) = (n : Int) := IntWalk.i64_in _ (by omega)
  rw [hL]
  simp
  refine awp_loop_of (α := Unit) (fun _ => True) (fun _ => [(0, .pointer (some ⟨A.a, 0, none⟩)), (1, .int .i64 (a : Int)), (18, .int .i64 L), (19, .int .i64 0)]) (fun _ => h) (fun _ => 0) ()
    trivial (Heap.Sub.refl hcl) (by simp; exact ⟨.ptr hba, .int, .int, .int⟩) ?_
  intro _ _
  simp [c20_0, hL0, ca1, apart, acut_area, gva]
  refine (slot_ok A.D A.P A.S h).mono ?_
  rintro _ h9 ⟨rfl, e⟩
  rw [e]; clear e h9
  rw [hL]
  simp [w1, w2, ca1, apart]
  refine (ferase_lock A.d A.x A.y A.z V K.du n hnl hlk h K.dv).mono ?_
  rintro _ h9 ⟨rfl, e⟩
  rw [e]; clear e h9
  simp
theorem fill_lock (A : ArB) (V : DevS) (a : Nat) (ha : a ≤ 2) (x : Hd) (hx : x.hs.length = 32) (img : List UInt8) (hi : img.length ≤ 100000) (hE : txE A.D A.P A.S x img.length = 0) (h : Heap) (K : ArK h A V) (hlk : V.lock[secN A.D A.P A.S a 0 0]! = true) :
    ACalls Tryz.prog 15 [.pointer (some ⟨A.a, 0, none⟩), .int .i64 (a : Int), hv x, .string (bs img)] h fun r h' => r = .int .i64 4 ∧ Gr h h' := by
  refine acalls_of mix Tryz.func15 k15 n15 (by simp) fun hcl hb => ?_
  obtain ⟨⟨hd1, hd8⟩, ⟨hp2, hp6⟩, hn1, hn8⟩ := right_prop.1 K.rt
  have hlen : (hc x).length = 36 := by simp [hc, ubs_len, hx]
  have c36 := acut_full hlen
  have hva : (.agg (hc x).toArray : Value) = hv x := rfl
  have hba := cellsOf_lt hcl K.ca
  obtain ⟨l1, l2, l3, l4, l5⟩ := K.lo
  have hsz := K.sz
  have c1 : (h.push (.cells (hc x) .ex 1)).Closed := closed_push hcl hc_bel
  have g1 : Gr h (h.push (.cells (hc x) .ex 1)) := ⟨Nat.le_succ _, c1, keep_push hcl _⟩
  have f1 := cellsOf_new h (hc x) .ex 1
  have n1 : (h.push (.cells (hc x) .ex 1)).n = h.n + 1 := rfl
  simp [c15, m_hv]
  generalize h.push (.cells (hc x) .ex 1) = H1 at *
  have K1 := K.keep g1
  have t0 := there_ok A V a 0 H1 K1
  rw [show thereF A.S a 0 = true from thereF_in (k := 0) ha (by omega)] at t0
  refine t0.mono ?_
  rintro _ h9 ⟨rfl, e⟩
  rw [e]; clear e h9
  have ca1 := K1.ca
  simp [ca1, apart, acut_area, gva, f1, c36, hva]
  refine (atext_ok A.D A.P A.S x hx img hi H1).mono' ?_
  rintro _ H2 c2 _ ⟨v, rfl, n2⟩
  rw [hE]
  have g2 := n2.2.2
  have g12 := g1.trans g2
  have K2 := K.keep g12
  have ca2 := K2.ca
  have hTl : (txL A.D A.P A.S x img).length = A.D * A.S := by
    unfold txL
    rw [if_pos hE, splitT_len]
    have : ((A.D : Int) * A.S) = ((A.D * A.S : Nat) : Int) := by push_cast; rfl
    rw [this]; rfl
  obtain ⟨h60, ⟨nm, lT, xT⟩, _⟩ := n2
  obtain ⟨T, hT⟩ : ∃ T, txL A.D A.P A.S x img = T := ⟨_, rfl⟩
  rw [hT] at hTl h60 lT
  have hDS : 1 ≤ A.D * A.S := Nat.mul_pos (by omega) (by omega)
  obtain ⟨u, md, es, rfl, rfl, hu, hul, hro, hes⟩ : ∃ u md e, nm = some u ∧ v = .slice (some ⟨u, 0, none⟩) T.length T.length ∧ H2.cellsOf u = some (ubs T.flatten, md, e) ∧ (ubs T.flatten).length = T.length * 60 ∧ md ≠ .ro ∧ (md.isLoose = true → e = 60) := by
    rcases lT with ⟨_, _, q, _⟩ | q
    · omega
    · exact q
  have hun : h.n + 1 ≤ u := by have := xT u rfl; rw [n1] at this; omega
  have bu := cellsOf_lt c2 hu
  have g2n := g12.n
  simp [ca2, apart]
  have hall : ∀ k i, k < A.S → i < A.D + A.P → secN A.D A.P A.S a k i < V.lock.length := fun k i hk hi => by have := (secN_lt K.rt ha hk hi).1; omega
  have hTD : T.length ≤ 64 := by
    have : A.D * A.S ≤ 8 * 8 := Nat.mul_le_mul (by omega) (by omega)
    omega
  have hsl0 : (.slice (some ⟨u, 0, none⟩) T.length T.length : Value) = .slice (some ⟨u, 0 * A.D * 60, none⟩) (T.length - 0 * A.D) (T.length - 0 * A.D) := by simp
  rw [hsl0]
  refine awp_loop_of (α := Unit) (fun _ => True) (fun _ => [(0, .pointer (some ⟨A.a, 0, none⟩)), (1, .int .i64 (a : Int)), (10, .slice (some ⟨u, 0 * A.D * 60, none⟩) (T.length - 0 * A.D) (T.length - 0 * A.D)), (37, .int .i64 (A.S : Int)), (38, .int .i64 ((0 : Nat) : Int))]) (fun _ => H2) (fun _ => 0) ()
    trivial ⟨g2n, Nat.le_refl _, fun _ _ e => e, c2⟩ (by simp; exact ⟨.ptr (by show A.a < _; omega), .int, .slice bu, .int, .int⟩) ?_
  intro _ _
  have hlt : 0 < A.S := by omega
  have hi' : (0 : Int) < (A.S : Int) := by omega
  have hND : A.D ≤ T.length := by
    have : 1 * A.D ≤ T.length := by rw [hTl, Nat.mul_comm A.D]; exact Nat.mul_le_mul_right _ hlt
    omega
  have hab : abounds T.length T.length none (some (.int .i64 (A.D : Int))) none = some (0, A.D, T.length) := abounds_hi hND
  have hml : (md.isLoose = true → es = 60) = True := eq_true hes
  have hbl : ∀ cp, BlS H2 (.slice (some ⟨u, 0, none⟩) A.D cp) (T.take A.D) := fun cp => by
    refine ⟨fun y hy => h60 y (List.mem_of_mem_take hy), .inr ⟨u, 0, cp, _, _, _, by rw [List.length_take, Nat.min_eq_left hND], hu, fun i hi => ?_⟩⟩
    have hti : i < T.length := by rw [List.length_take] at hi; omega
    have := flat_cut h60 i hti
    rw [Nat.zero_add, this, List.getElem_take]
  simp [c15_0, hi', hlt, ca2, apart, hab, hu, hml, -Int.natCast_add]
  refine (awrite_lock A V a 0 ha hlt (T.take A.D) (by rw [List.length_take, Nat.min_eq_left hND]) _ H2 K2 (hbl T.length) hlk).mono' ?_
  rintro _ H4 c4 _ ⟨rfl, g4⟩
  simp
  exact g12.trans g4

def c4_0 : AC := .seq (.seq (.ops [⟨some 62,none,.mv (.tmp 12)⟩,⟨some 63,none,.fAddr 0 (.tmp 3)⟩,⟨some 64,none,.load none (.tmp 63)⟩,⟨some 65,none,.bin .lss (.tmp 62) (.tmp 64)⟩]) (.cond (.tmp 65) .skip (.exit 0))) (.seq (.block 1 (.ops [⟨some 68,none,.mv (.tmp 11)⟩,⟨some 69,none,.load (some 60) (.tmp 5)⟩,⟨some 70,none,.call 19 [.tmp 69]⟩,⟨some 71,none,.call 18 [.tmp 70]⟩,⟨some 72,none,.buildS 1 (zl .u8 60) [(0,60,.tmp 71)]⟩,⟨some 73,none,.app 60 60 40 (.tmp 68) (.tmp 72)⟩,⟨some 11,none,.mv (.tmp 73)⟩])) (.ops [⟨some 66,none,.mv (.tmp 12)⟩,⟨some 67,none,.bin .add (.tmp 66) (.const (.int .i64 1))⟩,⟨some 12,none,.mv (.tmp 67)⟩]))
def c4 : AC := .seq (.ops [⟨some 3,none,.box (.tmp 0)⟩,⟨some 5,none,.box (.tmp 2)⟩,⟨some 6,none,.mv (.const (.bool false))⟩]) (.seq (.seq (.ops [⟨some 17,none,.call 8 []⟩,⟨some 18,none,.un .not (.tmp 17)⟩]) (.cond (.tmp 18) (.seq (.ops [⟨some 6,none,.mv (.const (.bool false))⟩]) .ret) .skip)) (.seq (.seq (.ops [⟨some 19,none,.load (some 3) (.tmp 3)⟩,⟨some 20,none,.call 11 [.tmp 19]⟩,⟨some 21,none,.un .not (.tmp 20)⟩,⟨some 22,none,.mv (.tmp 21)⟩,⟨some 23,some (22,false),.mv (.tmp 1)⟩,⟨some 24,some (22,false),.lenS true (.tmp 23)⟩,⟨some 25,some (22,false),.load (some 3) (.tmp 3)⟩,⟨some 26,some (22,false),.call 12 [.tmp 25]⟩,⟨some 27,some (22,false),.bin .gtr (.tmp 24) (.tmp 26)⟩,⟨some 28,none,.pick (.tmp 22) (.const (.bool true)) (.tmp 27)⟩,⟨some 29,none,.mv (.tmp 28)⟩,⟨some 30,some (29,false),.mv (.tmp 1)⟩,⟨some 31,some (29,false),.lenS true (.tmp 30)⟩,⟨some 32,some (29,false),.bin .gtr (.tmp 31) (.const (.int .i64 1000))⟩,⟨some 33,none,.pick (.tmp 29) (.const (.bool true)) (.tmp 32)⟩]) (.cond (.tmp 33) (.seq (.ops [⟨some 6,none,.mv (.const (.bool true))⟩]) .ret) .skip)) (.seq (.ops [⟨some 35,none,.load (some 3) (.tmp 3)⟩,⟨some 36,none,.call 13 [.tmp 35]⟩,⟨some 34,none,.mv (.tmp 36)⟩,⟨some 37,none,.extr (.tmp 34) 0⟩,⟨some 38,none,.extr (.tmp 34) 1⟩,⟨some 7,none,.mv (.tmp 37)⟩,⟨some 8,none,.mv (.tmp 38)⟩]) (.seq (.ops [⟨some 40,none,.load (some 3) (.tmp 3)⟩,⟨some 41,none,.call 14 [.tmp 40]⟩,⟨some 39,none,.mv (.tmp 41)⟩,⟨some 42,none,.extr (.tmp 39) 0⟩,⟨some 43,none,.extr (.tmp 39) 1⟩,⟨some 9,none,.mv (.tmp 42)⟩,⟨some 10,none,.mv (.tmp 43)⟩]) (.seq (.seq (.ops [⟨some 44,none,.mv (.tmp 7)⟩,⟨some 45,none,.eqv false .ptr (.tmp 44) (.const (.pointer none))⟩,⟨some 46,none,.mv (.tmp 45)⟩,⟨some 47,some (46,false),.mv (.tmp 7)⟩,⟨some 48,some (46,false),.build [.int .i64 0,.int .i64 0,.int .i64 0] []⟩,⟨some 49,some (46,false),.mv (.tmp 1)⟩,⟨some 50,some (46,false),.call 16 [.tmp 48,.tmp 49]⟩,⟨some 51,some (46,false),.mv (.tmp 1)⟩,⟨some 52,some (46,false),.call 15 [.tmp 47,.const (.int .i64 0),.tmp 50,.tmp 51]⟩,⟨some 53,some (46,false),.bin .neq (.tmp 52) (.const (.int .i64 0))⟩,⟨some 54,none,.pick (.tmp 46) (.const (.bool true)) (.tmp 53)⟩,⟨some 55,none,.mv (.tmp 54)⟩,⟨some 56,some (55,false),.mv (.tmp 8)⟩,⟨some 57,some (55,false),.mv (.tmp 9)⟩,⟨some 58,some (55,false),.mv (.tmp 10)⟩,⟨some 59,some (55,false),.call 17 [.tmp 56,.tmp 57,.tmp 58]⟩,⟨some 60,some (55,false),.bin .neq (.tmp 59) (.const (.int .i64 0))⟩,⟨some 61,none,.pick (.tmp 55) (.const (.bool true)) (.tmp 60)⟩]) (.cond (.tmp 61) (.seq (.ops [⟨some 6,none,.mv (.const (.bool false))⟩]) .ret) .skip)) (.seq (.ops [⟨some 11,none,.mv (.const (.slice none 0 0))⟩]) (.seq (.seq (.ops [⟨some 12,none,.mv (.const (.int .i64 0))⟩]) (.block 0 (.loop c4_0))) (.seq (.seq (.ops [⟨some 74,none,.mv (.tmp 7)⟩,⟨some 75,none,.build [.int .i64 0,.int .i64 0,.int .i64 0] []⟩,⟨some 76,none,.call 16 [.tmp 75,.const (.string ⟨⟨[]⟩⟩)]⟩,⟨some 77,none,.call 15 [.tmp 74,.const (.int .i64 0),.tmp 76,.const (.string ⟨⟨[]⟩⟩)]⟩,⟨some 78,none,.bin .neq (.tmp 77) (.const (.int .i64 4))⟩,⟨some 79,none,.mv (.tmp 78)⟩,⟨some 80,some (79,false),.mv (.tmp 7)⟩,⟨some 81,some (79,false),.call 20 [.tmp 80,.const (.int .i64 0)]⟩,⟨some 82,some (79,false),.bin .neq (.tmp 81) (.const (.int .i64 4))⟩,⟨some 83,none,.pick (.tmp 79) (.const (.bool true)) (.tmp 82)⟩,⟨some 84,none,.mv (.tmp 83)⟩,⟨some 85,some (84,false),.mv (.tmp 7)⟩,⟨some 86,some (84,false),.mv (.tmp 11)⟩,⟨some 87,some (84,false),.call 21 [.tmp 85,.const (.int .i64 0),.const (.int .i64 0),.tmp 86]⟩,⟨some 88,some (84,false),.bin .neq (.tmp 87) (.const (.int .i64 4))⟩,⟨some 89,none,.pick (.tmp 84) (.const (.bool true)) (.tmp 88)⟩,⟨some 90,none,.mv (.tmp 89)⟩,⟨some 91,some (90,false),.mv (.tmp 7)⟩,⟨some 92,some (90,false),.mv (.tmp 11)⟩,⟨some 93,some (90,false),.call 21 [.tmp 91,.const (.int .i64 1),.const (.int .i64 0),.tmp 92]⟩,⟨some 94,some (90,false),.bin .neq (.tmp 93) (.const (.int .i64 0))⟩,⟨some 95,none,.pick (.tmp 90) (.const (.bool true)) (.tmp 94)⟩]) (.cond (.tmp 95) (.seq (.ops [⟨some 6,none,.mv (.const (.bool false))⟩]) .ret) .skip)) (.seq (.ops [⟨some 97,none,.mv (.tmp 7)⟩,⟨some 98,none,.call 22 [.tmp 97,.const (.int .i64 0)]⟩,⟨some 96,none,.mv (.tmp 98)⟩,⟨some 99,none,.extr (.tmp 96) 0⟩,⟨some 100,none,.extr (.tmp 96) 1⟩,⟨some 101,none,.extr (.tmp 96) 2⟩,⟨some 102,none,.extr (.tmp 96) 3⟩,⟨some 13,none,.alloc z36⟩,⟨none,none,.store 36 (.tmp 13) (.tmp 99)⟩,⟨some 14,none,.mv (.tmp 100)⟩,⟨some 15,none,.mv (.tmp 101)⟩,⟨some 16,none,.mv (.tmp 102)⟩]) (.seq (.ops [⟨some 103,none,.mv (.tmp 14)⟩,⟨some 104,none,.mv (.tmp 1)⟩,⟨some 105,none,.bin .eql (.tmp 103) (.tmp 104)⟩,⟨some 106,none,.mv (.tmp 105)⟩,⟨some 107,some (106,true),.mv (.tmp 15)⟩,⟨some 108,some (106,true),.bin .eql (.tmp 107) (.const (.int .i64 0))⟩,⟨some 109,none,.pick (.tmp 106) (.tmp 108) (.const (.bool false))⟩,⟨some 110,none,.mv (.tmp 109)⟩,⟨some 111,some (110,true),.mv (.tmp 16)⟩,⟨some 112,some (110,true),.bin .eql (.tmp 111) (.const (.int .i64 0))⟩,⟨some 113,none,.pick (.tmp 110) (.tmp 112) (.const (.bool false))⟩,⟨some 6,none,.mv (.tmp 113)⟩]) .ret))))))))))
theorem k4 : compF Tryz.prog Tryz.f4 = some (c4, [6]) := by kernel_rfl
theorem n4 : Tryz.f4.ntmps = 114 := by kernel_rfl
theorem of_E {D P S : Nat} (hr : right D P S = true) (a b c : Int) (ha : rng a) (hb : rng b) (hc : rng c) (img : List UInt8) (hi : (img.length : Int) ≤ roomF D P S) (h1 : img.length ≤ 100000) : txE D P S ⟨a, b, c, (img.length : Int), shaB img⟩ img.length = 0 := by
  unfold txE
  rw [if_pos ⟨hr, ⟨fun j hj => by
      match j, hj with
      | 0, _ => exact ha
      | 1, _ => exact hb
      | 2, _ => exact hc, by show (0 : Int) ≤ img.length; omega, by show (img.length : Int) ≤ 16777215; omega⟩, rfl⟩, if_neg (by omega)]
theorem rng0 : rng 0 := by unfold rng; decide
theorem room0 (d p s : Int) : 0 ≤ roomF d p s := by
  unfold roomF
  split <;> omega
theorem nats_of {d p s : Int} (hr : right d p s = true) : ∃ D P S : Nat, d = D ∧ p = P ∧ s = S := by
  obtain ⟨⟨hd1, hd8⟩, ⟨hp2, hp6⟩, hn1, hn8⟩ := right_prop.1 hr
  exact ⟨d.toNat, p.toNat, s.toNat, by omega, by omega, by omega⟩
theorem lockF_get (L : List Bool) (n j : Nat) (hj : j < L.length) : (lockF L 0 n)[j]! = if j < n then true else L[j]! := by
  unfold lockF
  rw [getElem!_pos _ j (by simpa using hj)]
  simp
theorem slot0_of {P S D : Nat} (hr : right D P S = true) : slot (D : Int) P S = (((D + P) * S : Nat) : Int) := by rw [(slot_right hr).1]; push_cast; rfl
def _root_.Go.Proofs.YtikpgnkegnedoaaGreat.arbb.DevS.lk0 (V : DevS) (n : Nat) : DevS := { V with lock := lockF V.lock 0 n }
theorem _root_.Go.Proofs.YtikpgnkegnedoaaGreat.arbc.DevU.lk0 {V : DevS} (u : DevU V) (n : Nat) : DevU (V.lk0 n) := ⟨u.up, u.lf, by show V.data.length = 64 * (lockF V.lock 0 n).length; rw [lockF_len]; exact u.dl, by show V.wear.length = (lockF V.lock 0 n).length; rw [lockF_len]; exact u.wl, by show (lockF V.lock 0 n).length ≤ 512; rw [lockF_len]; exact u.nl⟩
theorem arlock_ok (A : ArB) (V : DevS) (h : Heap) (hcl : h.Closed) (K : ArK h A V) :
    ACalls Tryz.prog 17 [.pointer (some ⟨A.d, 0, none⟩), .int .i64 0, .int .i64 (slot A.D A.P A.S)] h fun r h' => r = .int .i64 0 ∧ ArK h' A (V.lk0 ((A.D + A.P) * A.S)) ∧ ArX A h h' := by
  have hsl := slot0_of K.rt
  have hall : allS (A.D : Int) A.P A.S ≤ V.lock.length := K.sz
  have hn : (A.D + A.P) * A.S ≤ V.lock.length := by
    have : allS (A.D : Int) A.P A.S = 3 * slot (A.D : Int) A.P A.S + 18 := by unfold allS; rw [if_pos K.rt]
    omega
  rw [hsl]
  refine (lock_ok A.d A.x A.y A.z V 0 _ (Nat.zero_le _) hn (by have := K.du.nl; omega) h K.dv).mono' ?_
  rintro _ h' hc' _ ⟨rfl, m, e, rfl, dk⟩
  obtain ⟨m', e', cy, _, _⟩ := K.dv.cy
  have gx : ArX A h (h.set A.y (.cells ((lockF V.lock 0 ((A.D + A.P) * A.S)).map Value.bool) m e)) := Xd.set (Xd.refl hcl) (by simp) (cellsOf_lt hcl cy) (fun x hx => by
    obtain ⟨b, _, rfl⟩ := List.mem_map.1 hx
    exact .bool)
  exact ⟨rfl, K.keepX gx dk (K.du.lk0 _) (lockF_len _ _ _), gx⟩
theorem areaLocked_law (d p s : Int) (img : List UInt8) (b : List UInt8) (hb60 : b.length = 60) (h : Heap) : ACalls Tryz.prog 4 [gv d p s, .string (bs img), agB b] h fun v _ => v = .bool true ∧ True := by
  refine acalls_of mix Tryz.func4 k4 n4 (by simp) fun hcl hb => ?_
  have fil0 : afill [.int .i64 0, .int .i64 0, .int .i64 0] [] = some [.int .i64 0, .int .i64 0, .int .i64 0] := rfl
  have h30 : (.agg #[.int .i64 0, .int .i64 0, .int .i64 0] : Value) = v3 0 0 0 := rfl
  have hq : ∀ p, aeq .ptr (.pointer (some p)) (.pointer none) = some false := fun _ => rfl
  have hmb : mcells (agB b) = some (ubs b) := rfl
  have c1 : (h.push (.cells [.int .i64 d, .int .i64 p, .int .i64 s] .ex 1)).Closed := closed_push hcl (fun x hx => by simp at hx; rcases hx with rfl | rfl | rfl <;> exact .int)
  have f1 := cellsOf_new h [.int .i64 d, .int .i64 p, .int .i64 s] .ex 1
  have n1 : (h.push (.cells [.int .i64 d, .int .i64 p, .int .i64 s] .ex 1)).n = h.n + 1 := rfl
  have g1 : Gr h (h.push (.cells [.int .i64 d, .int .i64 p, .int .i64 s] .ex 1)) := ⟨Nat.le_succ _, c1, keep_push hcl _⟩
  simp only [c4, s_seq, s_ops]
  simp [gvm, hmb]
  generalize h.push (.cells [.int .i64 d, .int .i64 p, .int .i64 s] .ex 1) = H1 at *
  have c2 : (H1.push (.cells (ubs b) .ex 1)).Closed := closed_push c1 ubs_bel
  have g2 : Gr H1 (H1.push (.cells (ubs b) .ex 1)) := ⟨Nat.le_succ _, c2, keep_push c1 _⟩
  have f2 := cellsOf_keep g2.m f1
  have k2 := cellsOf_new H1 (ubs b) .ex 1
  rw [n1] at k2
  have n2 : (H1.push (.cells (ubs b) .ex 1)).n = h.n + 1 + 1 := by show H1.n + 1 = _; rw [n1]
  generalize H1.push (.cells (ubs b) .ex 1) = H2 at *
  refine (arawake_ok H2).mono ?_
  rintro _ h9 ⟨rfl, e⟩
  rw [e]; clear e h9
  simp [aun, f2, apart, gvc, gva]
  refine (gRefRight_ok d p s H2).mono ?_
  rintro _ h9 ⟨rfl, e⟩
  rw [e]; clear e h9
  cases hr : right d p s
  · simp [aun]
  simp [aun, f2, apart, gvc, gva, bs_size]
  refine (groom_ok d p s H2).mono ?_
  rintro _ h9 ⟨rfl, e⟩
  rw [e]; clear e h9
  by_cases hroom : roomF d p s < (img.length : Int)
  · simp [hroom]
  by_cases hbig : (1000 : Int) < (img.length : Int)
  · simp [hroom, hbig, bs_size]
  obtain ⟨D, P, S, rfl, rfl, rfl⟩ := nats_of hr
  simp [hroom, hbig, bs_size, f2, apart, gvc, gva]
  refine (fresh_ok D P S hr H2).mono' ?_
  rintro _ H3 c3 _ ⟨A, rfl, K3, g3, ha, hd, hx, hy, hz, hD, hP, hS⟩
  have f3 := cellsOf_keep g3.m f2
  have k3 := cellsOf_keep g3.m k2
  simp [f3, apart, gvc, gva]
  refine (golden_ok D P S H3).mono ?_
  rintro _ h9 ⟨rfl, e⟩
  rw [e]; clear e h9
  simp [hq, fil0, h30]
  refine (hof_ok 0 0 0 img (by omega) H3).mono ?_
  rintro _ h9 ⟨rfl, e⟩
  rw [e]; clear e h9
  have hE := of_E K3.rt 0 0 0 rng0 rng0 rng0 img (by rw [hD, hP, hS]; omega) (by omega)
  have hE0 := of_E K3.rt 0 0 0 rng0 rng0 rng0 [] (room0 _ _ _) (by simp)
  have free : ∀ a k i, a ≤ 2 → k < A.S → i < A.D + A.P → (dev0 (allS (D : Int) P S).toNat).lock[secN A.D A.P A.S a k i]! = false := fun a k i ha hk hi => secs_free (D := D) (P := P) (S := S) _ _ (by
    have := (secN_lt K3.rt ha hk hi).1
    rw [hD, hP, hS] at this
    rw [hD, hP, hS]
    omega)
  obtain ⟨xB, hxB⟩ : ∃ xB : Hd, (⟨0, 0, 0, (img.length : Int), shaB img⟩ : Hd) = xB := ⟨_, rfl⟩
  have hsB : xB.hs = shaB img := by rw [← hxB]
  have hx32 : xB.hs.length = 32 := by rw [hsB]; exact shaB_len _
  rw [hxB] at hE
  rw [hxB]
  have hsl : slot (D : Int) P S = slot (A.D : Int) A.P A.S := by rw [hD, hP, hS]
  rw [hsl]
  simp
  refine (fill_ok A _ 0 (by omega) xB hx32 img (by omega) hE H3 K3 (fun k i hk hi => free 0 k i (by omega) hk hi)).mono' ?_
  rintro _ H4 c4 _ ⟨rfl, V4, K4, w4, g4⟩
  simp
  refine (arlock_ok A V4 H4 c4 K4).mono' ?_
  rintro _ H5 c5 _ ⟨rfl, K5, g5⟩
  have b2n := g2.n
  have kx : ∀ {u c}, u < H2.n → ∀ {m e}, ∀ {Ha Hb : Heap}, ArX A Ha Hb → Ha.cellsOf u = some (c, m, e) → Hb.cellsOf u = some (c, m, e) := fun hu _ _ _ _ g q => by
    have := g.m _ _ (m_of_cells q) (by omega) (by omega) (by omega) (by omega)
    unfold Heap.cellsOf; rw [this]
  have f5 := kx (by omega) g5 (kx (by omega) g4 f3)
  have k5 := kx (by omega) g5 (kx (by omega) g4 k3)
  have a5n : A.a < H5.n := cellsOf_lt c5 K5.ca
  have d5n := K5.lo
  simp
  refine awp_loop_of (α := RbS) (fun z => z.i ≤ D ∧ NewK H5 z.H z.v (List.replicate z.i b)) (fun z => [(1, .string (bs img)), (3, .pointer (some ⟨h.n, 0, none⟩)), (5, .pointer (some ⟨h.n + 1, 0, none⟩)), (7, .pointer (some ⟨A.a, 0, none⟩)), (8, .pointer (some ⟨A.d, 0, none⟩)), (11, z.v), (12, .int .i64 (z.i : Int))]) (fun z => z.H) (fun z => D - z.i) ⟨0, .slice none 0 0, H5⟩
    ⟨Nat.zero_le _, (fun _ hx => by cases hx), ⟨none, .inl ⟨rfl, rfl, rfl, rfl⟩, fun _ e => by cases e⟩, Gr.refl c5⟩ ⟨by have := g1.n; have := g3.n; have := g4.n; have := g5.n; show h.n ≤ H5.n; omega, Nat.le_refl _, fun _ _ e => e, c5⟩ (by simp; exact ⟨.string, .ptr (by show h.n < _; omega), .ptr (by show h.n + 1 < _; omega), .ptr a5n, .ptr (by show A.d < _; omega), .snil, .int⟩) ?_
  rintro ⟨i, v, H⟩ ⟨hi, nk⟩
  dsimp only at hi nk ⊢
  have gH := nk.2.2
  have f6 := cellsOf_keep gH.m f5
  have k6 := cellsOf_keep gH.m k5
  have c60 : acut (ubs b) 0 60 = some (ubs b) := acut_full (by rw [ubs_len]; exact hb60)
  have hab : (.agg (ubs b).toArray : Value) = agB b := rfl
  have b5 : h.n ≤ H5.n := by have := g1.n; have := g3.n; have := g4.n; have := g5.n; omega
  have hD8 := (right_prop.1 hr).1.2
  by_cases hlt : i < D
  · have hi' : (i : Int) < (D : Int) := by omega
    have w4 : IntKind.i64.wrap ((i : Int) + 1) = ((i + 1 : Nat) : Int) := by rw [IntWalk.i64_in _ (by omega)]; omega
    simp [c4_0, f6, apart, hi', k6, c60, hab, -Int.natCast_add]
    refine (rtx_ok b hb60 H).mono' ?_
    rintro _ H6 c6 _ ⟨rfl, g6⟩
    simp
    refine (rblock_ok b (by omega) H6).mono ?_
    rintro _ h9 ⟨rfl, e⟩
    rw [e]; clear e h9
    have hpad : padT b = b := by
      unfold padT
      rw [List.take_of_length_le (by omega), hb60]
      simp
    rw [hpad]
    have filX : afill (zl .u8 60) [(0, 60, agB b)] = some (ubs b) := by
      show (if (ubs b).length = 60 ∧ 0 + 60 ≤ (zl .u8 60).length then afill ((zl .u8 60).take 0 ++ ubs b ++ (zl .u8 60).drop (0 + 60)) [] else none) = _
      rw [if_pos ⟨by rw [ubs_len]; exact hb60, by rw [zl_len]; omega⟩, List.take_zero, List.nil_append, List.drop_of_length_le (by rw [zl_len]; omega), List.append_nil]
      rfl
    obtain ⟨h60, ⟨nm, la, xa⟩, _⟩ := nk
    have la6 := la.up fun x _ ob e => g6.m x ob e
    obtain ⟨a2, ea, v2, H7, happ, l7, fr7, n7, c7⟩ := lat_push1 (t := 40) (bytes := 60) g6.cl la6 (ubs b) 1 (by rw [ubs_len]; exact hb60) (fun k => ubs_bel) (by simp; omega)
    have hfst : afirst (H6.push (.cells (ubs b) .ex 1)) 60 1 (.slice (some ⟨H6.n, 0, none⟩) 1 1) = some (ubs b) := by
      have := cellsOf_new H6 (ubs b) .ex 1
      simp [afirst, this, c60]
    have hms : ubs (List.replicate i b).flatten ++ ubs b = ubs (List.replicate (i + 1) b).flatten := by
      rw [List.replicate_succ', List.flatten_append, ubs_app]; simp
    rw [hms] at l7
    simp only [List.length_replicate] at l7 ea happ
    subst ea
    have g7 : Gr H5 H7 := ⟨by have := gH.n; have := g6.n; omega, c7, fun u ob e => fr7 u ob (g6.m u ob (gH.m u ob e)) (fun q => by have := xa u q; have := (c5 u ob e).1; omega)⟩
    simp [filX, alen, hfst, happ, w4, -Int.natCast_add]
    exact ⟨⟨i + 1, v2, H7⟩, by show D - (i + 1) < D - i; omega, ⟨by show i + 1 ≤ D; omega, fun x hx => by rw [(List.mem_replicate.1 hx).2]; exact hb60, ⟨some (H6.n + 1), by simpa using l7, fun u e => by have := Option.some.inj e; have := gH.n; have := g6.n; omega⟩, g7⟩, ⟨by have := g7.n; show h.n ≤ H7.n; omega, Nat.le_refl _, fun _ _ e => e, c7⟩, .string, .ptr (by have := g7.n; show h.n < H7.n; omega), .ptr (by have := g7.n; show h.n + 1 < H7.n; omega), .ptr (by have := g7.n; show A.a < H7.n; omega), .ptr (by have := g7.n; show A.d < H7.n; omega), ⟨rfl, lat_bel c7 l7⟩, rfl, .int⟩
  · have hie : i = D := by omega
    subst hie
    have K6 := K5.keep gH
    have bl := nk.bls
    obtain ⟨Lb, hLb⟩ : ∃ Lb, List.replicate i b = Lb := ⟨_, rfl⟩
    have hLl : Lb.length = A.D := by rw [← hLb, List.length_replicate, hD]
    rw [hLb] at bl
    obtain ⟨⟨hd1, hd8⟩, ⟨hp2, hp6⟩, hn1, hn8⟩ := right_prop.1 K6.rt
    have hVl : V4.lock.length = (dev0 (allS (i : Int) P S).toNat).lock.length := by rw [w4.lk]
    have hlt5 : ∀ a k j, a ≤ 2 → k < A.S → j < A.D + A.P → secN A.D A.P A.S a k j < V4.lock.length := fun a k j ha hk hj => by
      have := (secN_lt K6.rt ha hk hj).1
      have := K4.sz
      omega
    have hm1 : 1 * 1 ≤ (A.D + A.P) * A.S := Nat.mul_le_mul (by omega) (by omega)
    have hl0 : (V4.lk0 ((A.D + A.P) * A.S)).lock[secN A.D A.P A.S 0 0 0]! = true := by
      show (lockF V4.lock 0 _)[_]! = true
      rw [lockF_get _ _ _ (hlt5 0 0 0 (by omega) (by omega) (by omega)), if_pos (by unfold secN; omega)]
    have hl1 : ∀ j, j < A.D + A.P → (V4.lk0 ((A.D + A.P) * A.S)).lock[secN A.D A.P A.S 1 0 j]! = false := fun j hj => by
      show (lockF V4.lock 0 _)[_]! = false
      rw [lockF_get _ _ _ (hlt5 1 0 j (by omega) (by omega) hj), if_neg (by unfold secN; omega), w4.lk]
      exact free 1 0 j (by omega) (by omega) hj
    simp [c4_0, f6, apart, fil0, h30]
    refine (hof_ok 0 0 0 [] (by simp) H).mono ?_
    rintro _ h9 ⟨rfl, e⟩
    rw [e]; clear e h9
    simp
    refine (fill_lock A _ 0 (by omega) ⟨0, 0, 0, (([] : List UInt8).length : Int), shaB []⟩ (shaB_len _) [] (by simp) hE0 H K6 hl0).mono' ?_
    rintro _ H7 c7 _ ⟨rfl, g7⟩
    have K7 := K6.keep g7
    simp
    refine (wipe_lock A _ 0 (by omega) H7 K7 hl0).mono ?_
    rintro _ h9 ⟨rfl, e⟩
    rw [e]; clear e h9
    simp
    refine (awrite_lock A _ 0 0 (by omega) (by omega) Lb hLl v H7 K7 (bl.keep g7.m) hl0).mono' ?_
    rintro _ H8 c8 _ ⟨rfl, g8⟩
    have K8 := K7.keep g8
    simp
    refine (awrite_ok A _ 1 0 (by omega) (by omega) Lb hLl v H8 K8 ((bl.keep g7.m).keep g8.m) hl1).mono' ?_
    rintro _ H9 c9 _ ⟨rfl, V9, K9, w9, g9⟩
    have fw : Filled A V9 V9 0 (txL A.D A.P A.S xB img) A.S := ⟨rfl, fun k j hk hj => by
      rw [← w4.at' k j hk hj]
      refine w9.no _ ?_ fun j' hj' q => ?_
      · show _ < (lockF V4.lock 0 _).length
        rw [lockF_len]
        exact hlt5 0 k j (by omega) hk hj
      · have e1 : (j + 1) * A.S ≤ (A.D + A.P) * A.S := Nat.mul_le_mul_right _ hj
        rw [Nat.add_mul, Nat.one_mul] at e1
        unfold secN at q
        omega, fun _ _ _ => rfl⟩
    simp
    refine (load_filled A _ V9 0 (by omega) xB hx32 img hE hsB fw H9 K9).mono' ?_
    rintro _ H10 c10 _ ⟨rfl, q, K10, g10⟩
    have hlen : (hc xB).length = 36 := by simp [hc, ubs_len, hx32]
    have hz36 : z36.length = 36 := by rw [z36_eq]; simp [hc, ubs_len, zH, z32]
    have hpx : aput z36 0 (hc xB) = hc xB := by
      unfold aput
      rw [hlen, List.drop_eq_nil_of_le (by rw [hz36]; omega)]
      simp
    have fz := cellsOf_new H10 z36 .ex 1
    simp [fz, m_hv, m_hc, hlen, hz36, hpx, set_push]

theorem blk_of : ∀ {xs : List Int}, (∀ y ∈ xs, (Lit.int .u8 y).wf = true) → ∃ l : List UInt8, xs.map (Value.int .u8) = ubs l ∧ l.length = xs.length
  | [], _ => ⟨[], rfl, rfl⟩
  | x :: xs, h => by
    obtain ⟨l, h1, h2⟩ := blk_of (xs := xs) fun y hy => h y (by simp [hy])
    obtain ⟨c, hc⟩ := u8_of (h x (by simp))
    exact ⟨c :: l, by rw [List.map_cons, h1, hc]; rfl, by simp [h2]⟩
theorem rel_blk {μ : Mu} {xs : List Int} {l : List UInt8} (h : xs.map (Value.int .u8) = ubs l) : VRel μ (agB l) (.agg (xs.map (Value.int .u8)).toArray) := by
  have := rel_ints μ .u8 xs
  rw [h] at this ⊢
  exact this
end Go.Proofs.YtikpgnkegnedoaaGreat.arbg

