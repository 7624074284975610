/-
  What the listed package-level variables give a walk: a table of what is known of them, and that a world that meets the row's condition holds it.
-/
import Derived.Test.YtofoihlcjmghfaaGreatDoorStr
import Derived.Test.YtofoihlcjmghfaaGreatDoorAbEnter
import Derived.Test.YtofoihlcjmghfaaGreatDoorRows
import Derived.Lib.LaidTab
import Derived.Lib.Space
import Derived.KernelRfl
import Derived.Shelf.Vars
import Derived.Handed
set_option linter.unusedSimpArgs false
set_option linter.unusedVariables false
namespace Go.Proofs.YtofoihlcjmghfaaGreatDoor.laidem
open Go Go.Ab Go.Proofs Go.RowKit Go.Proofs.YtofoihlcjmghfaaGreatDoor.str
set_option maxRecDepth 100000
theorem laid_mem {P : Program} {W : World} : ∀ {l : List (String × DataW Unit)} {ps : List MemPlace}, DataW.LaidVars P W l ps → ∀ x ∈ l, ∃ g t cs fuel p, P.globalNamed x.1 = some g ∧ (P.globals[g]?).map (·.type) = some t ∧ W.var? P x.1 = some cs ∧ DataW.trod (fun _ => ()) P W 0 (fun _ => true) false fuel t cs.toList = some (x.2, p)
  | [], _, _, x, hx => by cases hx
  | (n, d) :: r, ps, h, x, hx => by
    obtain ⟨g, t, cs, fuel, p, q, h1, h2, h3, h4, h5, _⟩ := h
    rcases List.mem_cons.1 hx with rfl | hx
    · exact ⟨g, t, cs, fuel, p, h1, h2, h3, h4⟩
    · exact laid_mem h5 x hx
theorem var_block {P : Program} {W : World} {n : String} {g : Nat} {cs : Array Value} (hg : P.globalNamed n = some g) (h : W.var? P n = some cs) : ∃ e fz, W.heap[g]? = some (.cells cs e fz) := by
  unfold World.var? at h
  rw [hg] at h
  simp only [Option.bind_some] at h
  split at h
  · rename_i c e fz hx
    cases h
    exact ⟨_, _, hx⟩
  · cases h
theorem iface_one {H : Type} {enc : TypeId × Value → H} {P : Program} {w : World} {b : Nat} {sp : Nat → Bool} {hd : Bool} {fuel : Nat} {t : TypeId} {ms : Array (String × TypeId)} {cs : List Value} {x : DataW H × List MemPlace} (ht : P.underlying t = some (.interface ms))
    (h : DataW.trod enc P w b sp hd fuel t cs = some x) : ∃ v, cs = [v] ∧ v.oneCell' = true := by
  cases fuel with
  | zero => simp [DataW.trod] at h
  | succ fuel =>
    match cs, h with
    | [], h => simp [DataW.trod, ht] at h
    | [.nilIface], _ => exact ⟨_, rfl, rfl⟩
    | [.iface u v], _ => exact ⟨_, rfl, rfl⟩
    | [.bool _], h => simp [DataW.trod, ht] at h
    | [.int _ _], h => simp [DataW.trod, ht] at h
    | [.float _ _], h => simp [DataW.trod, ht] at h
    | [.complex _ _ _], h => simp [DataW.trod, ht] at h
    | [.string _], h => simp [DataW.trod, ht] at h
    | [.pointer _], h => simp [DataW.trod, ht] at h
    | [.slice _ _ _], h => simp [DataW.trod, ht] at h
    | [.map _], h => simp [DataW.trod, ht] at h
    | [.chan _], h => simp [DataW.trod, ht] at h
    | [.func _ _ _], h => simp [DataW.trod, ht] at h
    | [.nilFunc], h => simp [DataW.trod, ht] at h
    | [.agg _], h => simp [DataW.trod, ht] at h
    | [.tuple _], h => simp [DataW.trod, ht] at h
    | _ :: _ :: _, h => simp [DataW.trod, ht] at h
def powZ : List Int := (List.range 20).map fun k => ((10 ^ k : Nat) : Int)
def tabs (mx : Int) : TabBox := ⟨fun g => if g = 5 then some (powZ.map (Value.int .u64)) else if g = 3 ∨ g = 4 then some [.float .f64 0] else if g = 2 then some [.int .i64 mx] else none⟩
theorem gf_tabs (mx : Int) : @GF ⟨tabs mx⟩ := @GF.mk ⟨tabs mx⟩ (by show some (powZ.map (Value.int .u64)) = _; simp [powZ])
theorem ge_tabs (mx : Int) : @GE ⟨tabs mx⟩ := @GE.mk ⟨tabs mx⟩ rfl rfl
theorem tab_of {W : World} {l : List (String × DataW Unit)} {ps : List MemPlace} (hl : DataW.LaidVars Tryz.prog W l ps) {nm : String} {g ta te n : Nat} {k : IntKind} {zs : List Int} {d : DataW Unit}
    (hg : Tryz.prog.globalNamed nm = some g) (ht : (Tryz.prog.globals[g]?).map (·.type) = some ta) (ua : Tryz.prog.underlying ta = some (.array n te)) (ue : Tryz.prog.underlying te = some (.int k)) (ce : Tryz.prog.cellsOf te = 1) (ca : Tryz.prog.cellsOf ta = n)
    (hd : d = Lib.tabData k zs) (hm : (nm, d) ∈ l) : g < W.heap.size ∧ ∃ cc e fz, W.heap[g]? = some (.cells cc e fz) ∧ (zs.map (Value.int k)).length ≤ cc.size ∧ ∀ i, i < (zs.map (Value.int k)).length → (∀ μ, VRel μ ((zs.map (Value.int k)).getD i unk) (cc.getD i unk)) ∧ (cc.getD i unk).oneCell' = true := by
  obtain ⟨g', t', cs, fuel, p, e1, e2, e3, e4⟩ := laid_mem hl _ hm
  obtain rfl := Option.some.inj (hg.symm.trans e1)
  obtain rfl := Option.some.inj (ht.symm.trans e2)
  obtain ⟨e, fz, hb⟩ := var_block e1 e3
  have hlt : g < W.heap.size := by
    rcases Nat.lt_or_ge g W.heap.size with k | k
    · exact k
    · rw [Array.getElem?_eq_none k] at hb; cases hb
  have hcs : cs.toList = zs.map fun z => Value.int k z := Lib.cells_of_tab (n := n) ua ue ce ca (hd ▸ e4)
  have hlen : cs.size = zs.length := by
    have := congrArg List.length hcs
    simpa using this
  refine ⟨hlt, cs, e, fz, hb, by simp [hlen], fun i hi => ?_⟩
  have hi' : i < zs.length := by simpa using hi
  have h8 : cs.toList[i]? = some (.int k zs[i]) := by
    rw [hcs, List.getElem?_map, List.getElem?_eq_getElem hi']; rfl
  have h9 : cs[i]? = some (.int k zs[i]) := by simpa using h8
  have hci : cs.getD i unk = .int k zs[i] := by simp only [Array.getD_eq_getD_getElem?, h9, Option.getD_some]
  have hgi : (zs.map (Value.int k)).getD i unk = .int k zs[i] := by simp only [List.getD, List.getElem?_map, List.getElem?_eq_getElem hi', Option.map_some, Option.getD_some]
  rw [hgi, hci]
  exact ⟨fun μ => .int, rfl⟩
/-- a world that meets the condition -/
theorem glaid_of {W : World} {mx : Int} (hmx : W.cell? ⟨2, 0, none⟩ = some (.int .i64 mx)) {l : List (String × DataW Unit)} (h : laidMet Tryz.prog l W) (h1 : ("internal/strconv.uint64pow10", Rows.laid_internal_strconv_uint64pow10) ∈ l) (h2 : ("strconv.ErrSyntax", Rows.laid_strconv_ErrSyntax) ∈ l) (h3 : ("strconv.ErrRange", Rows.laid_strconv_ErrRange) ∈ l) : @GLaid ⟨tabs mx⟩ W.heap.size W := by
  obtain ⟨ps, hl, _⟩ := h
  have lt_of : ∀ {g : Nat} {o : Obj}, W.heap[g]? = some o → g < W.heap.size := fun {g o} q => by
    rcases Nat.lt_or_ge g W.heap.size with k | k
    · exact k
    · rw [Array.getElem?_eq_none k] at q; cases q
  have one : ∀ (n : String) (g t : Nat) (d : DataW Unit) (ms : Array (String × TypeId)), Tryz.prog.globalNamed n = some g → (Tryz.prog.globals[g]?).map (·.type) = some t → Tryz.prog.underlying t = some (.interface ms) → (n, d) ∈ l →
      g < W.heap.size ∧ ∃ cc e fz, W.heap[g]? = some (.cells cc e fz) ∧ [Value.float .f64 0].length ≤ cc.size ∧ ∀ i, i < [Value.float .f64 0].length → (∀ μ, VRel μ ([Value.float .f64 0].getD i unk) (cc.getD i unk)) ∧ (cc.getD i unk).oneCell' = true := by
    intro n g t d ms hg ht hu hm
    obtain ⟨g', t', cs, fuel, p, e1, e2, e3, e4⟩ := laid_mem hl _ hm
    obtain rfl := Option.some.inj (hg.symm.trans e1)
    obtain rfl := Option.some.inj (ht.symm.trans e2)
    obtain ⟨e, fz, hb⟩ := var_block e1 e3
    obtain ⟨v, hv, hone⟩ := iface_one hu e4
    obtain rfl : cs = #[v] := by apply Array.ext'; simpa using hv
    refine ⟨lt_of hb, _, e, fz, hb, by simp, fun i hi => ?_⟩
    obtain rfl : i = 0 := by simpa using hi
    exact ⟨fun μ => .cell1 hone, hone⟩
  intro g c hgc
  have hgc : (tabs mx).tab g = some c := hgc
  unfold tabs at hgc
  dsimp only at hgc
  split at hgc
  · rename_i hg
    subst hg
    cases hgc
    exact tab_of hl (nm := "internal/strconv.uint64pow10") (zs := powZ) (by kernel_rfl) (by kernel_rfl) Tryz.underlying228 Tryz.underlying162 (by kernel_rfl) (by kernel_rfl) rfl h1
  · split at hgc
    · rename_i hg
      cases hgc
      rcases hg with rfl | rfl
      · exact one "strconv.ErrSyntax" _ 100 _ _ (by kernel_rfl) (by kernel_rfl) Tryz.underlying100 h2
      · exact one "strconv.ErrRange" _ 100 _ _ (by kernel_rfl) (by kernel_rfl) Tryz.underlying100 h3
    · split at hgc
      · rename_i hg
        subst hg
        cases hgc
        unfold World.cell? at hmx
        dsimp only at hmx
        split at hmx
        · rename_i cs e fz hx
          have h0 : cs[0]? = some (.int .i64 mx) := hmx
          have hlt : 0 < cs.size := by
            rcases Nat.lt_or_ge 0 cs.size with k | k
            · exact k
            · rw [Array.getElem?_eq_none k] at h0; cases h0
          refine ⟨lt_of hx, cs, e, fz, hx, by simp; omega, fun i hi => ?_⟩
          obtain rfl : i = 0 := by simpa using hi
          have hd : cs.getD 0 unk = .int .i64 mx := by simp only [Array.getD_eq_getD_getElem?, h0, Option.getD_some]
          rw [hd]
          exact ⟨fun μ => .int, rfl⟩
        · cases hmx
      · cases hgc
section
variable {H : Type} {enc : TypeId × Value → H}
theorem returnsInHanded_and_shaped {a : Assume} {C : Checked} {os : Os} {f : FuncId} {fn : Func} {s : ChangeSpec} {conds : List PathCond} {apart fresh handsOn again : Bool} {X : World → Array Value → Prop}
    (hX : ∀ (w w' : World) (args : Array Value), w.heap = w'.heap → X w args → X w' args)
    (own : ownKnob C.prog.godebug = none) (started : os.Started) (noInit : C.prog.inits.idxOf? f = none) (hfn : C.prog.funcs[f]? = some fn)
    (witness : ∃ (w : World) (tape : Tape) (i : Input), w.os = os ∧ (w.forCall tape i).Shaped C.prog ∧ i.vars = [] ∧ Input.okWide C.prog (w.forCall tape i) .any w.heap.size f i ∧
      ((s.pre enc C.prog fn conds apart (w.forCall tape i).memory i.args ∧ X (w.forCall tape i).memory i.args) ∧ sizedMet enc C.prog fn (OpenSpec.ofChange s) apart (w.forCall tape i).memory i.args) ∧ a.holds C.prog (lone (Frame.enter C.prog f i.args .normal) [] (w.forCall tape i)))
    (contract : ∀ (W : World) (base : Nat) (args : Array Value) (ds gs : List (DataW H)) (before : List MemPlace),
      (∀ (j : Nat) t v, fn.params[j]? = some t → args[j]? = some v → Value.okWide C.prog W .any base t v) →
      DataW.Whole enc C.prog fn.params.toList s.vars apart W args.toList ds gs before →
      conds.all (PathCond.test C.prog ⟨fn.params.toList, ds, s.plain.varTypes C.prog, gs⟩) = true →
      (DataW.weightsEach C.prog (fn.params.toList ++ s.plain.varTypes C.prog) (ds ++ gs)).all (· ≤ reachBytes) = true → X W args → W.ShapedOpen C.prog →
      Calls C.prog f args W fun e W' => ∃ v, e = .returned v ∧ s.post enc C.prog fn apart fresh handsOn again W args v W') :
    ReturnsInHanded a C os f .any (fun w args => (s.pre enc C.prog fn conds apart w args ∧ X w args) ∧ sizedMet enc C.prog fn (OpenSpec.ofChange s) apart w args) (s.post enc C.prog fn apart fresh handsOn again) := by
  refine returnsInHanded_of_calls own started noInit witness ?_
  intro w tape i _ hsh _ hok hpre _
  obtain ⟨_, _, _, fn', hfn', _, _, _, _, hval⟩ := hok
  obtain rfl : fn' = fn := Option.some.inj (hfn'.symm.trans hfn)
  obtain ⟨⟨⟨ds, gs, before, hw, hc⟩, hx⟩, hz⟩ := hpre
  have hw' := DataW.Whole.of_heap (w' := w.forCall tape i) (by rfl) hw
  refine (contract (w.forCall tape i) w.heap.size i.args ds gs before hval hw' hc (hz.weights hw) (hX _ _ _ (by rfl) hx) hsh).mono fun e W' ⟨v, he, hp⟩ => ?_
  subst he
  exact ChangeSpec.post_blind hp
end
theorem maxlen_of {W : World} (h : W.ShapedOpen Tryz.prog) : ∃ m, W.cell? ⟨2, 0, none⟩ = some (.int .i64 m) :=
  cell_of_shapedOpen_int (t := 3) (zero := #[.int .i64 0]) h (of_decide_eq_true (by kernel_rfl)) (by kernel_rfl) (by kernel_rfl) (by kernel_rfl) (by kernel_rfl) Tryz.underlying3
end Go.Proofs.YtofoihlcjmghfaaGreatDoor.laidem
