/-
 Ab: regions whose order is drawn: their stages; code,turned.
-/
import Derived.Test.YtdnmkenamgfjoaaGreatAbCompile
namespace Go.Ab
set_option linter.unusedSectionVars false
variable [Inhabited TabBox]
def AK.pure : AK → Bool
 | .mv _ | .pick .. | .build .. | .load .. | .nilck _ | .bin .. | .eqv .. | .eqa .. | .un .. | .toInt .. | .toStr _ | .strId _ | .mkI .. | .mkF .. | .slS .. | .slV .. | .slA .. | .fAddr .. | .fVal ..
 | .iAddrA .. | .iAddrS .. | .iValA .. | .iStr .. | .look .. | .extr .. | .lenS .. | .lenN _ | .lenM _ | .mx _ | .mn _ | .entryM _ | .tassert .. | .idxB .. | .eqi .. | .cntB .. | .capS _ | .noesc _ | .sdata _ | .uptr _ | .ptru .. => true
 | _ => false
def AK.indep : AK → Bool
 | .mv _ | .pick .. | .build .. | .nilck _ | .bin .. | .eqv .. | .eqa .. | .un .. | .toInt .. | .strId _ | .mkI .. | .mkF .. | .slS .. | .slA .. | .fAddr .. | .fVal ..
 | .iAddrA .. | .iAddrS .. | .iValA .. | .iStr .. | .extr .. | .lenS .. | .lenN _ | .mx _ | .mn _ | .tassert .. | .idxB .. | .eqi .. | .cntB .. | .noesc _ | .sdata _ => true
 | _ => false
def opdT : Operand → List Nat | .tmp t => [t] | _ => []
def AOper.reads (x : AOper) : List Nat := (match x.g with | some (t,_) => [t] | none => []) ++ x.k.opds.flatMap opdT
def AOper.dsts (x : AOper) : List Nat := x.dst.toList
def okFlat : List AOper → Bool
 | [] => true
 | x :: r => (x.reads.all fun t => (x :: r).all fun y => !(y.dsts.contains t)) && (x.dsts.all fun t => r.all fun y => !(y.dsts.contains t)) && okFlat r
def clos (pr : Nat → List Nat) : Nat → List Nat → List Nat
 | 0,S => S
 | i + 1,S => clos pr i (if S.any (fun k => (pr k).contains i) then i :: S else S)
abbrev Plan := List (List Nat × Option Nat × List Nat)
def Plan.flat : Plan → List Nat
 | [] => []
 | (e,w,_) :: r => e ++ w.toList ++ Plan.flat r
def Plan.code (A : Nat → AOper) (p : Plan) : List (List AOper × List AOper × List AOper) := p.map fun (e,w,rc) => (e.map A,w.toList.map A,rc.map A)
def Plan.es : Plan → List Nat
 | [] => []
 | (e,_,_) :: r => e ++ Plan.es r
def AOper.slots (x : AOper) : List Nat := x.reads ++ x.dsts
def okRest (pr : Nat → List Nat) (A : Nat → AOper) : List Nat → Option Nat → List Nat → Plan → Bool
 | _,none,rc,[] => rc.isEmpty
 | sofar, some w, rc, (e', w', rc') :: r => (sofar.all fun x => (A x).k.indep || rc.contains x || (clos pr w [w]).contains x) &&
   (sofar.all fun x => (clos pr w [w]).contains x || (A x).slots.all fun t => !(A w).dsts.contains t) &&
   (sofar.all fun x => (A x).slots.all fun t => e'.all fun y => !(A y).dsts.contains t) && okFlat (e'.map A) &&
   ((e' ++ w'.toList).all fun i => (pr i).any fun p => p == w || e'.contains p) && (e'.all fun i => (A i).k.pure) && okRest pr A (sofar ++ e') w' rc' r
 | _,_,_,_ => false
def prOf (ops : Array Oper) (i : Nat) : List Nat := match ops[i]? with | some o => (o.after.toList.filter (Region.binds .any)).map (·.on) | none => []
def nodupB : List Nat → Bool
 | [] => true
 | x :: r => !r.contains x && nodupB r
def planOk (pr : Nat → List Nat) (A : Nat → AOper) (n : Nat) : Plan → Bool
 | [] => false
 | (e0,w0,rc0) :: r => ((List.range n).all fun i => (pr i).all fun p => decide (p < i)) &&
   ((List.range n).all fun i => ((e0 ++ Plan.es r).filter fun x => x != i && (A i).reads.any fun t => (A x).dsts.contains t).all fun x => (clos pr i [i]).contains x) &&
   ((e0 ++ Plan.es r).all fun i => (A i).reads.all fun t => !(A i).dsts.contains t) &&
   ((e0 ++ w0.toList ++ Plan.flat r).all fun i => decide (i < n)) && nodupB (e0 ++ w0.toList ++ Plan.flat r) && (e0 ++ w0.toList ++ Plan.flat r).length == n &&
   ((List.range n).all fun i => (e0 ++ w0.toList ++ Plan.flat r).contains i) && okFlat (e0.map A) && (e0.all fun i => (A i).k.pure) && okRest pr A e0 w0 rc0 r
def atOnce (A : Nat → AOper) (x : AOper) (i : Nat) : Bool := x.k.pure && (List.range i).all fun j => (A j).slots.all fun t => !x.dsts.contains t
def stagesOf (A : Nat → AOper) (pr : Nat → List Nat) : List AOper → Nat → Nat → List (Bool × Nat) → List (Bool × Nat)
 | [],_,_,acc => acc
 | x :: r,i,w,acc => if atOnce A x i then stagesOf A pr r (i + 1) w (acc ++ [(true,(pr i).foldl (fun m p => match acc.getD p (true,0) with | (true,s) => max m s | (false,s) => max m (s + 1)) 0)])
   else stagesOf A pr r (i + 1) (w + 1) (acc ++ [(false,w)])
def mkPlan (pr : Nat → List Nat) (A : Nat → AOper) (n nw : Nat) (st : List (Bool × Nat)) : Plan :=
 (List.range (nw + 1)).map fun s =>
  let w := (List.range n).find? fun i => match st.getD i (true,0) with | (false,s') => s' == s | _ => false
  ((List.range n).filter fun i => match st.getD i (true,0) with | (true,s') => s' == s | _ => false,w,match w with
    | none => []
    | some w => (List.range n).filter fun i => (match st.getD i (true,0) with | (true,s') => decide (s' ≤ s) | _ => false) && !(A i).k.indep && !(clos pr w [w]).contains i)
inductive PT where
 | nil
 | br (w : Nat) (rc e : List Nat) (t alt : PT)
def PT.code (A : Nat → AOper) : PT → DT
 | .nil => .nil
 | .br w rc e t alt => .br (A w) (rc.map A) (e.map A) (t.code A) (alt.code A)
def PT.flat : PT → List Nat
 | .nil => []
 | .br w _ e t _ => w :: (e ++ t.flat)
def PT.ws : PT → List Nat
 | .nil => []
 | .br w _ _ _ alt => w :: alt.ws
def okT (pr : Nat → List Nat) (A : Nat → AOper) : Bool → List Nat → List Nat → PT → Bool
 | true,_,fl,.nil => fl.isEmpty
 | false,_,_,.nil => true
 | top,sofar,fl,.br w rc e t alt => (sofar.all fun x => (A x).k.indep || rc.contains x || (clos pr w [w]).contains x) &&
   (sofar.all fun x => (clos pr w [w]).contains x || (A x).slots.all fun t => !(A w).dsts.contains t) &&
   (sofar.all fun x => (A x).slots.all fun t => e.all fun y => !(A y).dsts.contains t) && okFlat (e.map A) && (e.all fun i => (A i).k.pure) &&
   (fl.all fun j => j == w || (e ++ t.flat).contains j) && ((w :: (e ++ t.flat)).all fun j => fl.contains j) && nodupB (w :: (e ++ t.flat)) && (w :: (e ++ t.flat)).length == fl.length &&
   (!top || (fl.all fun j => (PT.br w rc e t alt).ws.contains j || (pr j).any fun p => fl.contains p)) &&
   okT pr A true (sofar ++ e) t.flat t && okT pr A false sofar fl alt
def PT.es : PT → List Nat
 | .nil => []
 | .br _ _ e t alt => e ++ t.es ++ alt.es
def treeOk (pr : Nat → List Nat) (A : Nat → AOper) (n : Nat) (e0 : List Nat) (t : PT) : Bool :=
 ((List.range n).all fun i => (pr i).all fun p => decide (p < i)) &&
   ((List.range n).all fun i => ((e0 ++ t.es).filter fun x => x != i && (A i).reads.any fun t => (A x).dsts.contains t).all fun x => (clos pr i [i]).contains x) &&
   ((e0 ++ t.es).all fun i => (A i).reads.all fun t => !(A i).dsts.contains t) &&
   ((e0 ++ t.flat).all fun i => decide (i < n)) && nodupB (e0 ++ t.flat) && (e0 ++ t.flat).length == n &&
   ((List.range n).all fun i => (e0 ++ t.flat).contains i) && okFlat (e0.map A) && (e0.all fun i => (A i).k.pure) && okT pr A true e0 t.flat t
def availE (pr : Nat → List Nat) (A : Nat → AOper) (n : Nat) (D : List Nat) : List Nat :=
 (List.range n).foldl (fun acc i => if !D.contains i && atOnce A (A i) i && (pr i).all (fun p => D.contains p || acc.contains p) then acc ++ [i] else acc) []
def genT (pr : Nat → List Nat) (A : Nat → AOper) (n : Nat) : Nat → List Nat → List Nat → PT
 | 0,_,_ => .nil
 | k + 1,D,E => ((List.range n).filter fun i => !D.contains i && !atOnce A (A i) i && (pr i).all D.contains).foldr (fun w alt =>
   .br w (E.filter fun i => !(A i).k.indep && !(clos pr w [w]).contains i) (availE pr A n (w :: D)) (genT pr A n k (availE pr A n (w :: D) ++ w :: D) (E ++ availE pr A n (w :: D))) alt) .nil
def isLine (pr : Nat → List Nat) : Option Nat → Plan → Bool
 | _,[] => true
 | w0,(e,w,_) :: r => (match w0,w with
   | some w0,some w => (pr w).any fun p => p == w0 || e.contains p
   | _,_ => true) && isLine pr w r
def compDraw (ops : Array Oper) (al : List AOper) : Option AC :=
 let A := fun i => al.getD i ⟨none,none,.mv (.const (.bool true))⟩
 let st := stagesOf A (prOf ops) al 0 0 []
 let pl := mkPlan (prOf ops) A al.length (st.filter fun x => !x.1).length st
 if isLine (prOf ops) none pl then (if planOk (prOf ops) A ops.size pl then some (.draw (pl.code A)) else none)
 else (let e0 := availE (prOf ops) A ops.size []
  let tr := genT (prOf ops) A ops.size ops.size e0 e0
  if treeOk (prOf ops) A ops.size e0 tr then some (.drawT (e0.map A) (tr.code A)) else none)
def compC (P : Program) (N : Nat) : Code → Option AC
 | .skip => some .skip
 | .region _ ops d => match compList P N ops ops.toList with
   | some l => if d then some ((compDraw ops l).getD (.ops [⟨none,none,.bad⟩])) else some (.ops l)
   | none => none
 | .seq a b => match compC P N a,compC P N b with | some x,some y => some (.seq x y) | _,_ => none
 | .cond c a b => if okOpd N c then match compC P N a,compC P N b with | some x,some y => some (.cond c x y) | _,_ => none else none
 | .block id c => (compC P N c).map (.block id)
 | .loop c => (compC P N c).map .loop
 | .exit id => some (.exit id)
 | .ret => some .ret
 | .refuse _ => some .refuse
 | _ => some (.ops [⟨none,none,.bad⟩])
end Go.Ab
