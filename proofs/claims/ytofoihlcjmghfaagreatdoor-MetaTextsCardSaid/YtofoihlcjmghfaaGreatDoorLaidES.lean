/-
  What the listed package-level variables give a walk: a table of what is known of them, and that a world that meets the row's condition holds it.
-/
import Derived.Test.YtofoihlcjmghfaaGreatDoorStr
import Derived.Test.YtofoihlcjmghfaaGreatDoorFlds
import Derived.Test.YtofoihlcjmghfaaGreatDoorAbEnter
import Derived.Test.YtofoihlcjmghfaaGreatDoorRows
import Derived.Lib.LaidTab
import Derived.Lib.Space
import Derived.KernelRfl
set_option linter.unusedSimpArgs false
set_option linter.unusedVariables false
namespace Go.Proofs.YtofoihlcjmghfaaGreatDoor.laides
open Go Go.Ab Go.Proofs Go.RowKit Go.Proofs.YtofoihlcjmghfaaGreatDoor.str Go.Proofs.YtofoihlcjmghfaaGreatDoor.flds
set_option maxRecDepth 100000
theorem laid_mem {P : Program} {W : World} : ∀ {l : List (String × DataW Unit)} {ps : List MemPlace}, DataW.LaidVars P W l ps → ∀ x ∈ l, ∃ g t cs fuel p, P.globalNamed x.1 = some g ∧ (P.globals[g]?).map (·.type) = some t ∧ W.var? P x.1 = some cs ∧ DataW.trod (fun _ => ()) P W 0 (fun _ => true) false fuel t cs.toList = some (x.2, p)
  | [], _, _, x, hx => by cases hx
  | (n, d) :: r, ps, h, x, hx => by
    obtain ⟨g, t, cs, fuel, p, q, h1, h2, h3, h4, h5, _⟩ := h
    rcases List.mem_cons.1 hx with rfl | hx
    · exact ⟨g, t, cs, fuel, p, h1, h2, h3, h4⟩
    · exact laid_mem h5 x hx
theorem var_block {P : Program} {W : World} {n : String} {g : Nat} {cs : Array Value} (hg : P.globalNamed n = some g) (h : W.var? P n = some cs) : ∃ e fz, W.heap[g]? = some (.cells cs e fz) := by
  unfold World.var? at h
  rw [hg] at h
  simp only [Option.bind_some] at h
  split at h
  · rename_i c e fz hx
    cases h
    exact ⟨_, _, hx⟩
  · cases h
theorem iface_one {H : Type} {enc : TypeId × Value → H} {P : Program} {w : World} {b : Nat} {sp : Nat → Bool} {hd : Bool} {fuel : Nat} {t : TypeId} {ms : Array (String × TypeId)} {cs : List Value} {x : DataW H × List MemPlace} (ht : P.underlying t = some (.interface ms))
    (h : DataW.trod enc P w b sp hd fuel t cs = some x) : ∃ v, cs = [v] ∧ v.oneCell' = true := by
  cases fuel with
  | zero => simp [DataW.trod] at h
  | succ fuel =>
    match cs, h with
    | [], h => simp [DataW.trod, ht] at h
    | [.nilIface], _ => exact ⟨_, rfl, rfl⟩
    | [.iface u v], _ => exact ⟨_, rfl, rfl⟩
    | [.bool _], h => simp [DataW.trod, ht] at h
    | [.int _ _], h => simp [DataW.trod, ht] at h
    | [.float _ _], h => simp [DataW.trod, ht] at h
    | [.complex _ _ _], h => simp [DataW.trod, ht] at h
    | [.string _], h => simp [DataW.trod, ht] at h
    | [.pointer _], h => simp [DataW.trod, ht] at h
    | [.slice _ _ _], h => simp [DataW.trod, ht] at h
    | [.map _], h => simp [DataW.trod, ht] at h
    | [.chan _], h => simp [DataW.trod, ht] at h
    | [.func _ _ _], h => simp [DataW.trod, ht] at h
    | [.nilFunc], h => simp [DataW.trod, ht] at h
    | [.agg _], h => simp [DataW.trod, ht] at h
    | [.tuple _], h => simp [DataW.trod, ht] at h
    | _ :: _ :: _, h => simp [DataW.trod, ht] at h
def powZ : List Int := (List.range 20).map fun k => ((10 ^ k : Nat) : Int)
def tabs : TabBox := ⟨fun g => if g = 5 then some (powZ.map (Value.int .u64)) else if g = 0 then some (Lib.asciiSpaceTab.map (Value.int .u8)) else if g = 3 ∨ g = 4 then some [.float .f64 0] else none⟩
theorem gf_tabs : @GF ⟨tabs⟩ := @GF.mk ⟨tabs⟩ (by show some (powZ.map (Value.int .u64)) = _; simp [powZ])
theorem ge_tabs : @GE ⟨tabs⟩ := @GE.mk ⟨tabs⟩ rfl rfl
theorem ga_tabs : @GA ⟨tabs⟩ := @GA.mk ⟨tabs⟩ ⟨Lib.asciiSpaceTab.map (Value.int .u8), rfl, by simp [Lib.asciiSpaceTab], fun c h1 h2 => by
  have h3 : ∀ j : Fin 26, Lib.isSp (UInt8.ofNat (97 + j.val)) = false := by decide
  have h4 := h3 ⟨c - 97, by omega⟩
  rw [show 97 + (c - 97) = c by omega] at h4
  simp only [Lib.asciiSpaceTab, List.getElem?_map, List.getElem?_range (show c < 256 by omega), Option.map_some, h4]
  rfl, by
  have h4 : Lib.isSp (UInt8.ofNat 32) = true := by decide
  simp only [Lib.asciiSpaceTab, List.getElem?_map, List.getElem?_range (show 32 < 256 by omega), Option.map_some, h4]
  rfl⟩
theorem tab_of {W : World} {l : List (String × DataW Unit)} {ps : List MemPlace} (hl : DataW.LaidVars Tryz.prog W l ps) {nm : String} {g ta te n : Nat} {k : IntKind} {zs : List Int} {d : DataW Unit}
    (hg : Tryz.prog.globalNamed nm = some g) (ht : (Tryz.prog.globals[g]?).map (·.type) = some ta) (ua : Tryz.prog.underlying ta = some (.array n te)) (ue : Tryz.prog.underlying te = some (.int k)) (ce : Tryz.prog.cellsOf te = 1) (ca : Tryz.prog.cellsOf ta = n)
    (hd : d = Lib.tabData k zs) (hm : (nm, d) ∈ l) : g < W.heap.size ∧ ∃ cc e fz, W.heap[g]? = some (.cells cc e fz) ∧ (zs.map (Value.int k)).length ≤ cc.size ∧ ∀ i, i < (zs.map (Value.int k)).length → (∀ μ, VRel μ ((zs.map (Value.int k)).getD i unk) (cc.getD i unk)) ∧ (cc.getD i unk).oneCell' = true := by
  obtain ⟨g', t', cs, fuel, p, e1, e2, e3, e4⟩ := laid_mem hl _ hm
  obtain rfl := Option.some.inj (hg.symm.trans e1)
  obtain rfl := Option.some.inj (ht.symm.trans e2)
  obtain ⟨e, fz, hb⟩ := var_block e1 e3
  have hlt : g < W.heap.size := by
    rcases Nat.lt_or_ge g W.heap.size with k | k
    · exact k
    · rw [Array.getElem?_eq_none k] at hb; cases hb
  have hcs : cs.toList = zs.map fun z => Value.int k z := Lib.cells_of_tab (n := n) ua ue ce ca (hd ▸ e4)
  have hlen : cs.size = zs.length := by
    have := congrArg List.length hcs
    simpa using this
  refine ⟨hlt, cs, e, fz, hb, by simp [hlen], fun i hi => ?_⟩
  have hi' : i < zs.length := by simpa using hi
  have h8 : cs.toList[i]? = some (.int k zs[i]) := by
    rw [hcs, List.getElem?_map, List.getElem?_eq_getElem hi']; rfl
  have h9 : cs[i]? = some (.int k zs[i]) := by simpa using h8
  have hci : cs.getD i unk = .int k zs[i] := by simp only [Array.getD_eq_getD_getElem?, h9, Option.getD_some]
  have hgi : (zs.map (Value.int k)).getD i unk = .int k zs[i] := by simp only [List.getD, List.getElem?_map, List.getElem?_eq_getElem hi', Option.map_some, Option.getD_some]
  rw [hgi, hci]
  exact ⟨fun μ => .int, rfl⟩
/-- a world that meets the condition -/
theorem glaid_of {W : World} {l : List (String × DataW Unit)} (h : laidMet Tryz.prog l W) (h1 : ("internal/strconv.uint64pow10", Rows.laid_internal_strconv_uint64pow10) ∈ l) (h2 : ("strconv.ErrSyntax", Rows.laid_strconv_ErrSyntax) ∈ l) (h3 : ("strconv.ErrRange", Rows.laid_strconv_ErrRange) ∈ l) (h4 : ("strings.asciiSpace", Rows.laid_strings_asciiSpace) ∈ l) : @GLaid ⟨tabs⟩ W.heap.size W := by
  obtain ⟨ps, hl, _⟩ := h
  have lt_of : ∀ {g : Nat} {o : Obj}, W.heap[g]? = some o → g < W.heap.size := fun {g o} q => by
    rcases Nat.lt_or_ge g W.heap.size with k | k
    · exact k
    · rw [Array.getElem?_eq_none k] at q; cases q
  have one : ∀ (n : String) (g t : Nat) (d : DataW Unit) (ms : Array (String × TypeId)), Tryz.prog.globalNamed n = some g → (Tryz.prog.globals[g]?).map (·.type) = some t → Tryz.prog.underlying t = some (.interface ms) → (n, d) ∈ l →
      g < W.heap.size ∧ ∃ cc e fz, W.heap[g]? = some (.cells cc e fz) ∧ [Value.float .f64 0].length ≤ cc.size ∧ ∀ i, i < [Value.float .f64 0].length → (∀ μ, VRel μ ([Value.float .f64 0].getD i unk) (cc.getD i unk)) ∧ (cc.getD i unk).oneCell' = true := by
    intro n g t d ms hg ht hu hm
    obtain ⟨g', t', cs, fuel, p, e1, e2, e3, e4⟩ := laid_mem hl _ hm
    obtain rfl := Option.some.inj (hg.symm.trans e1)
    obtain rfl := Option.some.inj (ht.symm.trans e2)
    obtain ⟨e, fz, hb⟩ := var_block e1 e3
    obtain ⟨v, hv, hone⟩ := iface_one hu e4
    obtain rfl : cs = #[v] := by apply Array.ext'; simpa using hv
    refine ⟨lt_of hb, _, e, fz, hb, by simp, fun i hi => ?_⟩
    obtain rfl : i = 0 := by simpa using hi
    exact ⟨fun μ => .cell1 hone, hone⟩
  intro g c hgc
  have hgc : (tabs).tab g = some c := hgc
  unfold tabs at hgc
  dsimp only at hgc
  split at hgc
  · rename_i hg
    subst hg
    cases hgc
    exact tab_of hl (nm := "internal/strconv.uint64pow10") (zs := powZ) (by kernel_rfl) (by kernel_rfl) Tryz.underlying228 Tryz.underlying162 (by kernel_rfl) (by kernel_rfl) rfl h1
  · split at hgc
    · rename_i hg
      subst hg
      cases hgc
      exact tab_of hl (nm := "strings.asciiSpace") (zs := Lib.asciiSpaceTab) (by kernel_rfl) (by kernel_rfl) Tryz.underlying169 Tryz.underlying5 (by kernel_rfl) (by kernel_rfl) (by kernel_rfl) h4
    · split at hgc
      · rename_i hg
        cases hgc
        rcases hg with rfl | rfl
        · exact one "strconv.ErrSyntax" _ 100 _ _ (by kernel_rfl) (by kernel_rfl) Tryz.underlying100 h2
        · exact one "strconv.ErrRange" _ 100 _ _ (by kernel_rfl) (by kernel_rfl) Tryz.underlying100 h3
      · cases hgc
end Go.Proofs.YtofoihlcjmghfaaGreatDoor.laides
