/-
 Ab: an abstract machine beside the model: values whose addresses are names of abstract blocks,a heap of such blocks,and the relation to a world.
-/
import Derived.Test.YtdnmkenamgfjoaaGreatAbGlob
import Derived.Below
namespace Go.Ab
open Go.RowKit
abbrev unk : Value := .chan none
structure MI where
 cb : Nat
 dl : Nat
 asz : Nat
 csz : Nat
 esz : Nat
 loose : Bool
abbrev Mu := Nat → Option MI
inductive VRel (μ : Mu) : Value → Value → Prop where
 | any {r v'} : VRel μ (.chan r) v'
 | bool {b} : VRel μ (.bool b) (.bool b)
 | int {k n} : VRel μ (.int k n) (.int k n)
 | string {s} : VRel μ (.string s) (.string s)
 | pnil : VRel μ (.pointer none) (.pointer none)
 | ptr {b o mi} : μ b = some mi → VRel μ (.pointer (some ⟨b,o,none⟩)) (.pointer (some ⟨mi.cb,mi.dl + o,none⟩))
 | snil {l c} : VRel μ (.slice none l c) (.slice none l c)
 | slice {b o l c c' mi} : μ b = some mi → (c' = c ∨ (mi.loose = true ∧ o + c * mi.esz = mi.asz ∧ c ≤ c' ∧ mi.dl + o + c' * mi.esz ≤ mi.csz)) →
   VRel μ (.slice (some ⟨b,o,none⟩) l c) (.slice (some ⟨mi.cb,mi.dl + o,none⟩) l c')
 | sempty {a a' mi} : μ a.block = some mi → VRel μ (.slice (some a) 0 0) (.slice (some a') 0 0)
 | mnil : VRel μ (.map none) (.map none)
 | map {b mi} : μ b = some mi → VRel μ (.map (some b)) (.map (some mi.cb))
 | func {fn first first' cap cap'} : first.size = first'.size → (∀ i,i < first.size → VRel μ (first.getD i unk) (first'.getD i unk)) →
   cap.size = cap'.size → (∀ i,i < cap.size → VRel μ (cap.getD i unk) (cap'.getD i unk)) → VRel μ (.func fn first cap) (.func fn first' cap')
 | nilFunc : VRel μ .nilFunc .nilFunc
 | nilIface : VRel μ .nilIface .nilIface
 | glob {k g o} : VRel μ (.complex k g o) (.pointer (some ⟨g,o,none⟩))
 | cell1 {k n v'} : v'.oneCell' = true → VRel μ (.float k n) v'
 | iface {t v v'} : VRel μ v v' → VRel μ (.iface t v) (.iface t v')
 | agg {cs cs'} : cs.size = cs'.size → (∀ i,i < cs.size → VRel μ (cs.getD i unk) (cs'.getD i unk)) → (∀ i,i < cs'.size → (cs'.getD i unk).oneCell' = true) → VRel μ (.agg cs) (.agg cs')
 | tuple {cs cs'} : cs.size = cs'.size → (∀ i,i < cs.size → VRel μ (cs.getD i unk) (cs'.getD i unk)) → VRel μ (.tuple cs) (.tuple cs')
def ARel (μ : Mu) (xs ys : Array Value) : Prop := xs.size = ys.size ∧ ∀ i,i < xs.size → VRel μ (xs.getD i unk) (ys.getD i unk)
def Mu.le (n : Nat) (μ μ' : Mu) : Prop := ∀ b,b < n → μ' b = μ b
theorem VRel.mono' {μ μ' : Mu} (h : ∀ b mi,μ b = some mi → μ' b = some mi) {v v' : Value} (r : VRel μ v v') : VRel μ' v v' := by
 induction r with
 | any => exact .any
 | bool => exact .bool
 | int => exact .int
 | string => exact .string
 | pnil => exact .pnil
 | ptr e => exact .ptr (h _ _ e)
 | snil => exact .snil
 | slice e c => exact .slice (h _ _ e) c
 | sempty e => exact .sempty (h _ _ e)
 | mnil => exact .mnil
 | map e => exact .map (h _ _ e)
 | func a _ b _ ih1 ih2 => exact .func a ih1 b ih2
 | nilFunc => exact .nilFunc
 | nilIface => exact .nilIface
 | glob => exact .glob
 | cell1 h => exact .cell1 h
 | iface _ ih => exact .iface ih
 | agg a _ c ih => exact .agg a ih c
 | tuple a _ ih => exact .tuple a ih
inductive VBelow (n : Nat) : Value → Prop where
 | any {r} : VBelow n (.chan r)
 | bool {b} : VBelow n (.bool b)
 | int {k m} : VBelow n (.int k m)
 | string {s} : VBelow n (.string s)
 | pnil : VBelow n (.pointer none)
 | ptr {a} : a.block < n → VBelow n (.pointer (some a))
 | snil {l c} : VBelow n (.slice none l c)
 | slice {a l c} : a.block < n → VBelow n (.slice (some a) l c)
 | mnil : VBelow n (.map none)
 | map {b} : b < n → VBelow n (.map (some b))
 | func {fn first cap} : (∀ i,i < first.size → VBelow n (first.getD i unk)) → (∀ i,i < cap.size → VBelow n (cap.getD i unk)) → VBelow n (.func fn first cap)
 | nilFunc : VBelow n .nilFunc
 | nilIface : VBelow n .nilIface
 | glob {k g o} : VBelow n (.complex k g o)
 | cell1 {k m} : VBelow n (.float k m)
 | iface {t v} : VBelow n v → VBelow n (.iface t v)
 | agg {cs} : (∀ i,i < cs.size → VBelow n (cs.getD i unk)) → VBelow n (.agg cs)
 | tuple {cs} : (∀ i,i < cs.size → VBelow n (cs.getD i unk)) → VBelow n (.tuple cs)
theorem VRel.vbelow {μ : Mu} {n : Nat} (dom : ∀ b mi,μ b = some mi → b < n) {v v' : Value} (r : VRel μ v v') : VBelow n v := by
 induction r with
 | any => exact .any
 | bool => exact .bool
 | int => exact .int
 | string => exact .string
 | pnil => exact .pnil
 | ptr e => exact .ptr (dom _ _ e)
 | snil => exact .snil
 | slice e c => exact .slice (dom _ _ e)
 | sempty e => exact .slice (dom _ _ e)
 | mnil => exact .mnil
 | map e => exact .map (dom _ _ e)
 | func a _ b _ ih1 ih2 => exact .func ih1 ih2
 | nilFunc => exact .nilFunc
 | nilIface => exact .nilIface
 | glob => exact .glob
 | cell1 => exact .cell1
 | iface _ ih => exact .iface ih
 | agg a _ _ ih => exact .agg ih
 | tuple a _ ih => exact .tuple ih
theorem VRel.mono {μ μ' : Mu} {n : Nat} (h : ∀ b,b < n → μ' b = μ b) {v v' : Value} (r : VRel μ v v') (hb : VBelow n v) : VRel μ' v v' := by
 induction r with
 | any => exact .any
 | bool => exact .bool
 | int => exact .int
 | string => exact .string
 | pnil => exact .pnil
 | ptr e => cases hb with | ptr hb => exact .ptr ((h _ hb).trans e)
 | snil => exact .snil
 | slice e c => cases hb with | slice hb => exact .slice ((h _ hb).trans e) c
 | sempty e => cases hb with | slice hb => exact .sempty ((h _ hb).trans e)
 | mnil => exact .mnil
 | map e => cases hb with | map hb => exact .map ((h _ hb).trans e)
 | func a _ b _ ih1 ih2 => cases hb with | func h1 h2 => exact .func a (fun i hi => ih1 i hi (h1 i hi)) b (fun i hi => ih2 i hi (h2 i hi))
 | nilFunc => exact .nilFunc
 | nilIface => exact .nilIface
 | glob => exact .glob
 | cell1 h => exact .cell1 h
 | iface _ ih => cases hb with | iface hb => exact .iface (ih hb)
 | agg a _ c ih => cases hb with | agg hb => exact .agg a (fun i hi => ih i hi (hb i hi)) c
 | tuple a _ ih => cases hb with | tuple hb => exact .tuple a (fun i hi => ih i hi (hb i hi))
theorem VBelow.mono {n m : Nat} (h : n ≤ m) {v : Value} (r : VBelow n v) : VBelow m v := by
 induction r with
 | any => exact .any
 | bool => exact .bool
 | int => exact .int
 | string => exact .string
 | pnil => exact .pnil
 | ptr e => exact .ptr (by omega)
 | snil => exact .snil
 | slice e => exact .slice (by omega)
 | mnil => exact .mnil
 | map e => exact .map (by omega)
 | func _ _ ih1 ih2 => exact .func ih1 ih2
 | nilFunc => exact .nilFunc
 | nilIface => exact .nilIface
 | glob => exact .glob
 | cell1 => exact .cell1
 | iface _ ih => exact .iface ih
 | agg _ ih => exact .agg ih
 | tuple _ ih => exact .tuple ih
inductive BMode where
 | ro | ex | loose (t : Nat) | exT (t : Nat)
 deriving DecidableEq
def BMode.isLoose : BMode → Bool
 | .loose _ => true
 | _ => false
def TyOk (mi : MI) (m : BMode) (e : TypeId) : Prop := match m with
 | .loose t => t = 0 ∨ e = t
 | .exT t => e = t ∧ mi.dl = 0 ∧ mi.csz = mi.asz
 | _ => True
structure MEnt where
 key : Value
 val : Value
 born : Nat
inductive AObj where
 | cells (c : List Value) (m : BMode) (esz : Nat)
 | map (es : List MEnt) (clock : Nat)
 | strIter (s : ByteArray) (pos : Nat)
 | mapIter (map : Option Nat) (since : Nat) (seen : List Nat) (stepped : Nat)
def AObj.rw : AObj → Bool
 | .cells _ m _ => m != .ro
 | _ => true
def AObj.Below (n : Nat) : AObj → Prop
 | .cells c _ _ => ∀ v ∈ c,VBelow n v
 | .map es _ => ∀ e ∈ es,VBelow n e.key ∧ VBelow n e.val
 | .strIter _ _ => True
 | .mapIter m _ _ _ => ∀ b,m = some b → b < n
structure Heap where
 m : Nat → Option AObj
 n : Nat
def Heap.Closed (h : Heap) : Prop := ∀ b o,h.m b = some o → b < h.n ∧ o.Below h.n
def Heap.push (h : Heap) (o : AObj) : Heap := ⟨fun b => if b = h.n then some o else h.m b,h.n + 1⟩
def Heap.set (h : Heap) (b : Nat) (o : AObj) : Heap := ⟨fun b' => if b' = b then some o else h.m b', h.n⟩
def Heap.kill (h : Heap) (b : Nat) : Heap := ⟨fun b' => if b' = b then none else h.m b', h.n⟩
def CRel (μ : Mu) (mi : MI) (c : List Value) (m : BMode) (esz : Nat) (cc : Array Value) (fz : Nat × Nat) : Prop :=
 mi.dl + c.length ≤ cc.size ∧ (∀ i,i < c.length → VRel μ (c.getD i unk) (cc.getD (mi.dl + i) unk)) ∧ (∀ i,i < c.length → (cc.getD (mi.dl + i) unk).oneCell' = true) ∧ mi.asz = c.length ∧ mi.csz = cc.size ∧
 (m ≠ .ro → ∀ i,i < cc.size → ¬ (fz.1 ≤ i ∧ fz.2 ≠ fz.1)) ∧ (mi.loose = true ↔ m.isLoose = true) ∧ mi.esz = esz
def ORel (μ : Mu) (mi : MI) : AObj → Option Obj → Prop
 | .cells c m esz,o => ∃ cc e fz,o = some (.cells cc e fz) ∧ CRel μ mi c m esz cc fz ∧ TyOk mi m e
 | .map es clock,o => ∃ es' : Array Go.MapEntry,o = some (.map es' clock) ∧ es.length = es'.size ∧
   ∀ i (hi : i < es.length) (hi' : i < es'.size),VRel μ es[i].key es'[i].key ∧ VRel μ es[i].val es'[i].val ∧ es'[i].born = es[i].born
 | .strIter s p,o => mi.dl = 0 ∧ o = some (.stringIter s p)
 | .mapIter m since seen st, o => mi.dl = 0 ∧ ∃ m', o = some (.mapIter m' since seen.toArray st) ∧
   ((m = none ∧ m' = none) ∨ ∃ b mi', m = some b ∧ μ b = some mi' ∧ m' = some mi'.cb)
set_option linter.unusedSectionVars false
variable [Inhabited TabBox]
def GLaid (B : Nat) (w : World) : Prop := ∀ g c,GT g = some c → g < B ∧ ∃ cc e fz,w.heap[g]? = some (.cells cc e fz) ∧ c.length ≤ cc.size ∧
 ∀ i,i < c.length → (∀ μ,VRel μ (c.getD i unk) (cc.getD i unk)) ∧ (cc.getD i unk).oneCell' = true
theorem GLaid.keep {B : Nat} {w w' : World} (g : GLaid B w) (hw : ∀ k,k < B → w'.heap[k]? = w.heap[k]?) : GLaid B w' := fun x c e => by
 obtain ⟨h1,h2⟩ := g x c e
 exact ⟨h1,by rw [hw x h1]; exact h2⟩
structure HRel (B : Nat) (μ : Mu) (h : Heap) (w : World) : Prop where
 base : B ≤ w.heap.size
 dom : ∀ b mi,μ b = some mi → b < h.n ∧ mi.cb < w.heap.size
 obj : ∀ b o,h.m b = some o → ∃ mi,μ b = some mi ∧ ORel μ mi o w.heap[mi.cb]?
 own : ∀ b o mi,h.m b = some o → μ b = some mi → o.rw = true → B ≤ mi.cb ∧
  ∀ b2 o2 mi2,h.m b2 = some o2 → μ b2 = some mi2 → mi2.cb = mi.cb → b2 = b
 glob : GLaid B w
theorem VRel.vbelow_all {μ : Mu} {n : Nat} (dom : ∀ b mi,μ b = some mi → b < n) {c : List Value} {cc : Array Value} {d : Nat}
  (h : ∀ i,i < c.length → VRel μ (c.getD i unk) (cc.getD (d + i) unk)) : ∀ v ∈ c,VBelow n v := by
 intro v hv
 obtain ⟨i,hi,rfl⟩ := List.mem_iff_getElem.1 hv
 have := (h i hi).vbelow dom
 simpa [List.getD,List.getElem?_eq_getElem hi] using this
theorem HRel.closed {B : Nat} {μ : Mu} {h : Heap} {w : World} (r : HRel B μ h w) : h.Closed := by
 intro b o ho
 obtain ⟨mi,hm,ro⟩ := r.obj b o ho
 have hd : ∀ b mi,μ b = some mi → b < h.n := fun b mi e => (r.dom b mi e).1
 refine ⟨hd b mi hm,?_⟩
 cases o with
 | cells c m esz =>
   obtain ⟨cc,e,fz,_,⟨_,hc,_⟩,_⟩ := ro
   exact VRel.vbelow_all hd hc
 | map es clock =>
   obtain ⟨es', _, hl, hc⟩ := ro
   intro e he
   obtain ⟨i,hi,rfl⟩ := List.mem_iff_getElem.1 he
   obtain ⟨h1,h2,_⟩ := hc i hi (by omega)
   exact ⟨h1.vbelow hd,h2.vbelow hd⟩
 | strIter s p => trivial
 | mapIter m since seen st =>
   obtain ⟨_, m', _, h | ⟨b', mi', h1, h2, _⟩⟩ := ro
   ·intro b' hb'; rw [h.1] at hb'; cases hb'
   ·intro b'' hb''; rw [h1] at hb''; cases hb''; exact hd _ _ h2
theorem ORel.mono {μ μ' : Mu} {n : Nat} (h : ∀ b,b < n → μ' b = μ b) {mi : MI} {o : AObj} {x : Option Obj} (r : ORel μ mi o x) (hb : o.Below n) : ORel μ' mi o x := by
 cases o with
 | cells c m esz =>
   obtain ⟨cc,e,fz,he,⟨h1,h2,h3⟩,ht⟩ := r
   refine ⟨cc,e,fz,he,⟨h1,fun i hi => (h2 i hi).mono h (hb _ ?_),h3⟩,ht⟩
   simp [List.getD,List.getElem?_eq_getElem hi]
 | map es clock =>
   obtain ⟨es', he, hl, hc⟩ := r
   refine ⟨es', he, hl, fun i hi hi' => ?_⟩
   obtain ⟨h1,h2,h3⟩ := hc i hi hi'
   have := hb es[i] (by simp)
   exact ⟨h1.mono h this.1,h2.mono h this.2,h3⟩
 | strIter s p => exact r
 | mapIter m since seen st =>
   obtain ⟨hd, m', he, h0 | ⟨b', mi', h1, h2, h3⟩⟩ := r
   ·exact ⟨hd, m', he, .inl h0⟩
   ·exact ⟨hd, m', he, .inr ⟨b', mi', h1, (h _ (hb _ h1)).trans h2, h3⟩⟩
end Go.Ab
