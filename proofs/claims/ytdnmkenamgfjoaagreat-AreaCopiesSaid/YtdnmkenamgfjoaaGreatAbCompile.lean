/-
 Ab: the model's code,turned to abstract code.
-/
import Derived.Test.YtdnmkenamgfjoaaGreatAbOps
namespace Go.Ab
set_option linter.unusedSectionVars false
variable [Inhabited TabBox]
def szOf (P : Program) (t : TypeId) : Option Nat := (P.info? t).map (·.size)
def byOf (P : Program) (t : TypeId) : Option Nat := (P.info? t).map (·.bytes)
def flat1 : Value → Bool
 | .bool _ | .int _ _ | .string _ | .pointer none | .slice none _ _ | .map none | .nilFunc | .nilIface => true
 | _ => false
def flat : Value → Bool
 | .agg cs => cs.toList.all flat1
 | v => flat1 v
def zOf (P : Program) (t : TypeId) : Option (List Value) := ((P.info? t).bind (·.zero)).bind fun v => let c := acells v; if c.all flat1 ∧ some c.length = szOf P t then some c else none
def zVal (P : Program) (t : TypeId) : Option Value := ((P.info? t).bind (·.zero)).bind fun v => if flat v then some v else none
def aggOf (P : Program) (t : TypeId) : Option (Option Nat) := match P.underlying t with
 | some (.struct _) | some (.array _ _) => (szOf P t).map some
 | some _ => some none
 | none => none
def okOpd (N : Nat) : Operand → Bool
 | .tmp t => t < N
 | .const v => flat v
 | .func _ => true
 | .global _ => true
def isInt (P : Program) (t : TypeId) : Bool := match P.underlying t with | some (.int _) => true | _ => false
def isStr (P : Program) (t : TypeId) : Bool := match P.underlying t with | some .string => true | _ => false
def isSl (P : Program) (t : TypeId) : Bool := match P.underlying t with | some (.slice _) => true | _ => false
def partsOf (place : Nat → Option (Nat × Nat)) : List (Nat × Operand) → Option (List (Nat × Nat × Operand))
 | [] => some []
 | (i,x) :: r => match place i,partsOf place r with | some (o,s),some l => some ((o,s,x) :: l) | _,_ => none
def eqFs (P : Program) (rec : TypeId → Option (List CK)) : List Field → Nat → Option (List CK)
 | [],_ => some []
 | fl :: r, n => if fl.name ≠ "_" ∧ fl.offset = n then match rec fl.type with
   | some k => if szOf P fl.type = some k.length then match eqFs P rec r (n + k.length) with | some l => some (k ++ l) | none => none else none
   | none => none
  else none
def eqTy (P : Program) : Nat → TypeId → Option (List CK)
 | 0,_ => none
 | d + 1,t => match P.underlying t with
   | some .bool => some [.b]
   | some (.int _) => some [.i]
   | some .string => some [.s]
   | some (.struct fs) => if P.stoodInHeld t then none else eqFs P (eqTy P d) fs.toList 0
   | some (.array n e) => match eqTy P d e with
     | some k => if szOf P e = some k.length then some (List.replicate n k).flatten else none
     | none => none
   | _ => none
def isNilOp : Operand → Bool
 | .const .nilIface => true
 | _ => false
def isNilP : Operand → Bool
 | .const (.pointer none) => true
 | _ => false
def eqOk (P : Program) (t : TypeId) (x y : Operand) : Option EK := match P.underlying t with
 | some .bool => some .bool
 | some (.pointer e) => if isNilP x || isNilP y then some .ptr else (match szOf P e with | some (_ + 1) => some .pp | _ => none)
 | some (.slice _) => some .slc
 | some (.map _ _) => some .map
 | some (.func _ _ _) => some .fn
 | some (.interface _) => if isNilOp x || isNilOp y then some .ifc else none
 | _ => none
def eqAgg (P : Program) (t : TypeId) : Option (List CK) := match P.underlying t with
 | some (.struct _) | some (.array _ _) => if P.eqGuardType P.depth t then none else eqTy P 20 t
 | _ => none
def isAggT (P : Program) (t : TypeId) : Bool := match P.underlying t with | some (.struct _) | some (.array _ _) => true | _ => false
def keyOf' (P : Program) (t : TypeId) : Option KD := (eqTy P 20 t).map fun ks => ⟨isAggT P t,ks⟩
def optOk (N : Nat) : Option Operand → Bool | none => true | some x => okOpd N x
def selfPtr (P : Program) (e : TypeId) : Bool := match P.underlying e with
 | some (.struct fs) => match fs[0]? with
   | some fl => match P.underlying fl.type with
     | some (.pointer e') => e' == e
     | _ => false
   | none => false
 | _ => false
def compExt (P : Program) (g : FuncId) (xs : List Operand) : Option AK := match P.funcs[g]? with
 | some fn => if fn.body.isNone && (Extern.findNext fn).isNone then
   (if fn.name = "internal/abi.NoEscape" then (match xs with | [x] => some (.noesc x) | _ => none)
    else if fn.name = "maps.clone" then (match xs with | [x] => some (.mclone x) | _ => none)
    else if fn.name = "internal/bytealg.IndexByteString" then (match xs with | [x, y] => some (.idxB x y) | _ => none)
    else if fn.name = "internal/bytealg.CountString" then (match xs with | [x, y] => some (.cntB x y) | _ => none)
    else if fn.name = "internal/bytealg.MakeNoZero" then (match fn.resultTypes.toList, xs with
     | [t],[x] => match P.underlying t with
       | some (.slice e) => some (.mkNZ e x)
       | _ => none
     | _,_ => none)
    else none)
   else none
 | none => none
def intTys (P : Program) : List TypeId := (List.range P.types.size).filter fun t => match P.info? t with
 | some i => i.comparable && isInt P t
 | none => false
def isIfc (P : Program) (t : TypeId) : Bool := match P.underlying t with | some (.interface _) => true | _ => false
def compBuiltin (P : Program) (b : Builtin) (ty : Array TypeId) (xs : List Operand) : Option AK :=
 match b,ty.toList,xs with
 | .len,[t],[x] => match P.underlying t with
   | some .string => some (.lenS true x)
   | some (.slice _) => some (.lenS false x)
   | some (.array n _) => some (.lenN n)
   | some (.map _ _) => some (.lenM x)
   | some (.pointer a) => match P.underlying a with | some (.array n _) => some (.lenN n) | _ => none
   | _ => none
 | .cap,[t],[x] => match P.underlying t with
   | some (.slice _) => some (.capS x)
   | _ => none
 | .append,[s,x],[a,b] => match P.underlying s with
   | some (.slice e) => match szOf P e,byOf P e,zOf P e with
     | some z,some by_,some zs => if isInt P x then some (.appMk z by_ e zs a b) else if (isStr P x || isSl P x) then some (.app z by_ e a b) else none
     | _,_,_ => none
   | _ => none
 | .copy,d :: _,[a,b] => match P.underlying d with
   | some (.slice e) => (szOf P e).map fun z => .copy z a b
   | _ => none
 | .clear,[t],[x] => match P.underlying t with
   | some (.slice e) => (zOf P e).map fun z => .clr z x
   | _ => none
 | .unsafeSliceData,_,[x] => some (.sdata x)
 | .unsafeString,[t,_],[p,n] => match P.underlying t with
   | some (.pointer u) => if P.cellsOf u = 1 then some (.ustr u p n) else none
   | _ => none
 | .max,_,xs => some (.mx xs)
 | .min,_,xs => some (.mn xs)
 | _,_,_ => none
def compOp (P : Program) (o : Oper) : Option AK :=
 match o.op with
 | .move x | .assign x => some (.mv x)
 | .pick c a b => some (.pick c a b)
 | .alloc e => if selfPtr P e then (zOf P e).map (.allocT e) else (zOf P e).map .alloc
 | .box _ x => some (.box x)
 | .build t ps => match zOf P t,P.underlying t with
   | some z,some (.struct fs) => if fs.toList.all (fun fl => (szOf P fl.type).isSome) = false then none else (partsOf (fun i => (fs[i]?).bind fun fl => (szOf P fl.type).map fun s => (fl.offset,s)) ps.toList).map fun l => .build z l
   | some z,some (.array _ e) => match szOf P e with | some s => (partsOf (fun i => some (i * s,s)) ps.toList).map fun l => .build z l | none => none
   | _,_ => none
 | .buildSlice t len ps => match P.underlying t with
   | some (.slice e) => match szOf P e,zOf P e with
     | some s,some z => if len * s ≤ 16777216 ∧ 0 < s then (partsOf (fun i => some (i * s,s)) ps.toList).map fun l => .buildS len (List.replicate len z).flatten l else none
     | _,_ => none
   | _ => none
 | .load t a => (aggOf P t).map fun s => .load s a
 | .store t a x => (szOf P t).map fun s => .store s a x
 | .nilCheck x => some (.nilck x)
 | .binOp op t x y _ => if isInt P t || isStr P t then some (.bin op x y)
   else match eqOk P t x y with
    | some d => (match op with | .eql => some (.eqv false d x y) | .neq => some (.eqv true d x y) | _ => none)
    | none => match eqAgg P t with
      | some ks => (match op with | .eql => some (.eqa false ks x y) | .neq => some (.eqa true ks x y) | _ => none)
      | none => if isIfc P t then (match op with | .eql => some (.eqi false (intTys P) x y) | .neq => some (.eqi true (intTys P) x y) | _ => none) else none
 | .unOp op _ x => some (.un op x)
 | .convert s d x => match P.underlying s,P.underlying d with
   | some (.int _),some (.int k) => some (.toInt k x)
   | some .string,some .string => some (.strId x)
   | some (.pointer t),some .unsafePointer => (match szOf P t with | some (_ + 1) => some (.uptr x) | _ => none)
   | some .unsafePointer,some (.pointer u) => (match szOf P u with | some (n + 1) => if P.cellsOf u = n + 1 then some (.ptru u (n + 1) x) else none | _ => none)
   | some (.slice _),some (.slice e) => if s == d then (match P.underlying e with | some (.int .u8) => some (.slId x) | _ => none) else none
   | some (.slice e),some .string => match P.underlying e with | some (.int .u8) => some (.toStr x) | _ => none
   | some .string,some (.slice e) => match P.underlying e with | some (.int .u8) => if szOf P e = some 1 ∧ byOf P e = some 1 then some (.toBytes e x) else none | _ => none
   | _,_ => none
 | .makeInterface t x => match P.underlying t with | some (.interface _) => none | some _ => some (.mkI t x) | none => none
 | .makeFunc fn first cap => some (.mkF fn first.toList cap.toList)
 | .makeMap _ none => some .mkMap
 | .makeSlice t l c => match P.underlying t with
   | some (.slice e) => match zOf P e,byOf P e,szOf P e with | some z,some b,some _ => (match P.underlying e with | some (.int .u8) => some (.mkSlT e z b l c) | _ => some (.mkSl z b l c)) | _,_,_ => none
   | _ => none
 | .slice t x lo hi mx => match P.underlying t with
   | some .string => match mx with | none => some (.slS x lo hi) | some _ => none
   | some (.slice e) => (szOf P e).map fun s => .slV s x lo hi mx
   | some (.array n e) => (szOf P e).map fun s => .slA n s x lo hi mx
   | _ => none
 | .fieldAddr t x i => match P.underlying t with
   | some (.struct fs) => match fs[i]? with
     | some fl => match szOf P fl.type with | some s => if 0 < s then some (.fAddr fl.offset x) else none | none => none
     | none => none
   | _ => none
 | .field t x i => match P.underlying t with
   | some (.struct fs) => match fs[i]? with
     | some fl => (aggOf P fl.type).map fun s => .fVal s fl.offset x
     | none => none
   | _ => none
 | .indexAddr t x i => match P.underlying t with
   | some (.slice e) => (szOf P e).map fun s => .iAddrS s x i
   | some (.array n e) => (szOf P e).map fun s => .iAddrA n s x i
   | _ => none
 | .index t x i => match P.underlying t with
   | some .string => some (.iStr x i)
   | some (.array n e) => match szOf P e,aggOf P e with | some s,some a => some (.iValA n s a x i) | _,_ => none
   | _ => none
 | .lookup t x i ok => match P.underlying t with
   | some (.map k e) => match keyOf' P k,zVal P e with | some ks,some z => some (.look ks z x i ok) | _,_ => none
   | _ => none
 | .mapUpdate t m k x | .insert t m k x => match P.underlying t with
   | some (.map kt _) => (keyOf' P kt).map fun ks => .mupd ks m k x
   | _ => none
 | .mapEntry t m k => match P.underlying t with
   | some (.map kt e) => match keyOf' P kt,zVal P e with | some ks,some z => some (.mentry ks z m k) | _,_ => none
   | _ => none
 | .entryStore _ m s x => some (.estore m s x)
 | .extract x i => some (.extr x i)
 | .range t x => match P.underlying t with
   | some (.map _ _) => some (.rangeM x)
   | some .string => some (.rangeS x)
   | _ => none
 | .next it false => some (.nextM it)
 | .next it true => some (.nextS it)
 | .entry it => some (.entryM it)
 | .typeAssert x _ t false => (match P.underlying t with | some (.interface _) => none | some _ => some (.tassert t x) | none => none)
 | .call c => match c.callee with
   | .value (.func g) => if callOk P g then some (.call g c.args.toList) else compExt P g c.args.toList
   | .value x => some (.callv x c.args.toList)
   | .builtin b => compBuiltin P b c.argTypes c.args.toList
   | _ => none
 | _ => none
def AK.opds : AK → List Operand
 | .mv x | .box x | .nilck x | .un _ x | .toInt _ x | .toStr x | .strId x | .slId x | .toBytes _ x | .mkI _ x | .fAddr _ x | .fVal _ _ x | .rangeS x | .nextS x | .rangeM x | .nextM x | .entryM x | .tassert _ x | .mclone x | .noesc x | .sdata x | .uptr x | .ptru _ _ x | .extr x _ | .lenS _ x | .lenM x | .capS x | .mkNZ _ x | .load _ x | .clr _ x => [x]
 | .pick c a b => [c,a,b]
 | .alloc _ | .allocT _ _ | .mkMap | .lenN _ | .bad => []
 | .build _ ps | .buildS _ _ ps => ps.map (·.2.2)
 | .store _ a x | .bin _ a x | .eqv _ _ a x | .eqa _ _ a x | .mkSl _ _ a x | .mkSlT _ _ _ a x | .iAddrA _ _ a x | .iAddrS _ a x | .iValA _ _ _ a x | .iStr a x | .look _ _ a x _ | .mentry _ _ a x | .app _ _ _ a x | .appMk _ _ _ _ a x | .copy _ a x | .eqi _ _ a x | .idxB a x | .cntB a x | .ustr _ a x => [a,x]
 | .mkF _ a b => a ++ b
 | .slS x lo hi => [x] ++ lo.toList ++ hi.toList
 | .slV _ x lo hi m3 | .slA _ _ x lo hi m3 => [x] ++ lo.toList ++ hi.toList ++ m3.toList
 | .mupd _ a b c | .estore a b c => [a,b,c]
 | .mx xs | .mn xs | .call _ xs => xs
 | .callv x xs => x :: xs
def dstOk (N : Nat) : Option Nat → Bool | none => true | some d => decide (d < N)
def compOper (P : Program) (N : Nat) (ops : Array Oper) (o : Oper) : Option AOper :=
 match (compOp P o).getD .bad with
 | k =>
   if k.opds.all (okOpd N) && dstOk N o.dst then
    match o.guard with
    | none => some ⟨o.dst,none,k⟩
    | some (j,want) => match (ops[j]?).bind (·.dst) with
      | some t => if t < N then some ⟨o.dst,some (t,want),k⟩ else none
      | none => none
   else none
def compList (P : Program) (N : Nat) (ops : Array Oper) : List Oper → Option (List AOper)
 | [] => some []
 | o :: r => match compOper P N ops o,compList P N ops r with | some a,some l => some (a :: l) | _,_ => none
end Go.Ab
