/-
  What the listed package-level variables give a walk: a table of what is known of them, and that a world that meets the row's condition holds it.
-/
import Derived.Test.YtpcnpnddkgdaeaaDoorStr
import Derived.Test.YtpcnpnddkgdaeaaDoorAbEnter
import Derived.Test.YtpcnpnddkgdaeaaDoorRows
import Derived.Lib.LaidTab
import Derived.KernelRfl
set_option linter.unusedSimpArgs false
set_option linter.unusedVariables false
namespace Go.Proofs.YtpcnpnddkgdaeaaDoor.laid
open Go Go.Ab Go.Proofs Go.RowKit Go.Proofs.YtpcnpnddkgdaeaaDoor.str
set_option maxRecDepth 100000
theorem laid_mem {P : Program} {W : World} : ∀ {l : List (String × DataW Unit)} {ps : List MemPlace}, DataW.LaidVars P W l ps → ∀ x ∈ l, ∃ g t cs fuel p, P.globalNamed x.1 = some g ∧ (P.globals[g]?).map (·.type) = some t ∧ W.var? P x.1 = some cs ∧ DataW.trod (fun _ => ()) P W 0 (fun _ => true) false fuel t cs.toList = some (x.2, p)
  | [], _, _, x, hx => by cases hx
  | (n, d) :: r, ps, h, x, hx => by
    obtain ⟨g, t, cs, fuel, p, q, h1, h2, h3, h4, h5, _⟩ := h
    rcases List.mem_cons.1 hx with rfl | hx
    · exact ⟨g, t, cs, fuel, p, h1, h2, h3, h4⟩
    · exact laid_mem h5 x hx
theorem var_block {P : Program} {W : World} {n : String} {g : Nat} {cs : Array Value} (hg : P.globalNamed n = some g) (h : W.var? P n = some cs) : ∃ e fz, W.heap[g]? = some (.cells cs e fz) := by
  unfold World.var? at h
  rw [hg] at h
  simp only [Option.bind_some] at h
  split at h
  · rename_i c e fz hx
    cases h
    exact ⟨_, _, hx⟩
  · cases h
theorem iface_one {H : Type} {enc : TypeId × Value → H} {P : Program} {w : World} {b : Nat} {sp : Nat → Bool} {hd : Bool} {fuel : Nat} {t : TypeId} {ms : Array (String × TypeId)} {cs : List Value} {x : DataW H × List MemPlace} (ht : P.underlying t = some (.interface ms))
    (h : DataW.trod enc P w b sp hd fuel t cs = some x) : ∃ v, cs = [v] ∧ v.oneCell' = true := by
  cases fuel with
  | zero => simp [DataW.trod] at h
  | succ fuel =>
    match cs, h with
    | [], h => simp [DataW.trod, ht] at h
    | [.nilIface], _ => exact ⟨_, rfl, rfl⟩
    | [.iface u v], _ => exact ⟨_, rfl, rfl⟩
    | [.bool _], h => simp [DataW.trod, ht] at h
    | [.int _ _], h => simp [DataW.trod, ht] at h
    | [.float _ _], h => simp [DataW.trod, ht] at h
    | [.complex _ _ _], h => simp [DataW.trod, ht] at h
    | [.string _], h => simp [DataW.trod, ht] at h
    | [.pointer _], h => simp [DataW.trod, ht] at h
    | [.slice _ _ _], h => simp [DataW.trod, ht] at h
    | [.map _], h => simp [DataW.trod, ht] at h
    | [.chan _], h => simp [DataW.trod, ht] at h
    | [.func _ _ _], h => simp [DataW.trod, ht] at h
    | [.nilFunc], h => simp [DataW.trod, ht] at h
    | [.agg _], h => simp [DataW.trod, ht] at h
    | [.tuple _], h => simp [DataW.trod, ht] at h
    | _ :: _ :: _, h => simp [DataW.trod, ht] at h
def powZ : List Int := (List.range 20).map fun k => ((10 ^ k : Nat) : Int)
def tabs : TabBox := ⟨fun g => if g = 5 then some ((List.range 20).map fun k => Value.int .u64 ((10 ^ k : Nat) : Int)) else if g = 1 ∨ g = 2 then some [.float .f64 0] else none⟩
theorem gf_tabs : @GF ⟨tabs⟩ := @GF.mk ⟨tabs⟩ rfl rfl rfl
theorem pow_data {H : Type} : (Rows.laid_internal_strconv_uint64pow10 : DataW H) = Lib.tabData .u64 powZ := rfl
/-- a world that meets the condition -/
theorem glaid_of {W : World} {l : List (String × DataW Unit)} (h : laidMet Tryd.prog l W) (h1 : ("internal/strconv.uint64pow10", Rows.laid_internal_strconv_uint64pow10) ∈ l)
    (h2 : ("strconv.ErrSyntax", Rows.laid_strconv_ErrSyntax) ∈ l) (h3 : ("strconv.ErrRange", Rows.laid_strconv_ErrRange) ∈ l) : @GLaid ⟨tabs⟩ W.heap.size W := by
  obtain ⟨ps, hl, _⟩ := h
  have lt_of : ∀ {g : Nat} {o : Obj}, W.heap[g]? = some o → g < W.heap.size := fun {g o} q => by
    rcases Nat.lt_or_ge g W.heap.size with k | k
    · exact k
    · rw [Array.getElem?_eq_none k] at q; cases q
  have one : ∀ (n : String) (g t : Nat) (d : DataW Unit) (ms : Array (String × TypeId)), Tryd.prog.globalNamed n = some g → (Tryd.prog.globals[g]?).map (·.type) = some t → Tryd.prog.underlying t = some (.interface ms) → (n, d) ∈ l →
      g < W.heap.size ∧ ∃ cc e fz, W.heap[g]? = some (.cells cc e fz) ∧ [Value.float .f64 0].length ≤ cc.size ∧ ∀ i, i < [Value.float .f64 0].length → (∀ μ, VRel μ ([Value.float .f64 0].getD i unk) (cc.getD i unk)) ∧ (cc.getD i unk).oneCell' = true := by
    intro n g t d ms hg ht hu hm
    obtain ⟨g', t', cs, fuel, p, e1, e2, e3, e4⟩ := laid_mem hl _ hm
    obtain rfl := Option.some.inj (hg.symm.trans e1)
    obtain rfl := Option.some.inj (ht.symm.trans e2)
    obtain ⟨e, fz, hb⟩ := var_block e1 e3
    obtain ⟨v, hv, hone⟩ := iface_one hu e4
    obtain rfl : cs = #[v] := by apply Array.ext'; simpa using hv
    refine ⟨lt_of hb, _, e, fz, hb, by simp, fun i hi => ?_⟩
    obtain rfl : i = 0 := by simpa using hi
    exact ⟨fun μ => .cell1 hone, hone⟩
  intro g c hgc
  have hgc : tabs.tab g = some c := hgc
  unfold tabs at hgc
  dsimp only at hgc
  split at hgc
  · rename_i hg
    subst hg
    cases hgc
    obtain ⟨g', t', cs, fuel, p, e1, e2, e3, e4⟩ := laid_mem hl _ h1
    have hg5 : Tryd.prog.globalNamed "internal/strconv.uint64pow10" = some 5 := by kernel_rfl
    have ht5 : (Tryd.prog.globals[5]?).map (·.type) = some 190 := by kernel_rfl
    obtain rfl := Option.some.inj (hg5.symm.trans e1)
    obtain rfl := Option.some.inj (ht5.symm.trans e2)
    obtain ⟨e, fz, hb⟩ := var_block e1 e3
    have hcs : cs.toList = powZ.map fun z => Value.int .u64 z := Lib.cells_of_tab (n := 20) Tryd.underlying190 Tryd.underlying162 (by kernel_rfl) (by kernel_rfl) (pow_data ▸ e4)
    have hlen : cs.size = 20 := by
      have := congrArg List.length hcs
      simpa [powZ] using this
    refine ⟨lt_of hb, cs, e, fz, hb, by simp [hlen], fun i hi => ?_⟩
    have hi' : i < 20 := by simpa using hi
    have hci : cs.getD i unk = .int .u64 ((10 ^ i : Nat) : Int) := by
      have : cs.toList[i]? = some (.int .u64 ((10 ^ i : Nat) : Int)) := by
        rw [hcs]
        simp only [powZ, List.map_map, List.getElem?_map, List.getElem?_range hi']
        rfl
      have h9 : cs[i]? = some (.int .u64 ((10 ^ i : Nat) : Int)) := by simpa using this
      simp only [Array.getD_eq_getD_getElem?, h9, Option.getD_some]
    have hgi : ((List.range 20).map fun k => Value.int .u64 ((10 ^ k : Nat) : Int)).getD i unk = .int .u64 ((10 ^ i : Nat) : Int) := by
      simp only [List.getD, List.getElem?_map, List.getElem?_range hi', Option.map_some, Option.getD_some]
    rw [hgi, hci]
    exact ⟨fun μ => .int, rfl⟩
  · split at hgc
    · rename_i hg
      cases hgc
      rcases hg with rfl | rfl
      · exact one "strconv.ErrSyntax" _ 99 _ _ (by kernel_rfl) (by kernel_rfl) Tryd.underlying99 h2
      · exact one "strconv.ErrRange" _ 99 _ _ (by kernel_rfl) (by kernel_rfl) Tryd.underlying99 h3
    · cases hgc
end Go.Proofs.YtpcnpnddkgdaeaaDoor.laid
