/-
 Ab: operations on abstract states,and how the model's code is turned to them.
-/
import Derived.Test.YtdnmkenamgfjoaaGreatAbSem
import Derived.Laws.Externs
import Derived.Lib.Bytealg
namespace Go.Ab
set_option linter.unusedSectionVars false
variable [Inhabited TabBox]
open Go.RowKit
inductive CK where
 | b | i | s
 deriving DecidableEq
structure KD where
 ag : Bool
 ks : List CK
inductive EK where
 | bool | ptr | slc | map | fn | ifc | pp
 deriving DecidableEq
inductive AK where
 | mv (x : Operand)
 | pick (c a b : Operand)
 | alloc (z : List Value)
 | box (x : Operand)
 | build (z : List Value) (parts : List (Nat × Nat × Operand))
 | buildS (len : Nat) (z : List Value) (parts : List (Nat × Nat × Operand))
 | load (sz : Option Nat) (a : Operand)
 | store (sz : Nat) (a x : Operand)
 | nilck (x : Operand)
 | bin (op : BinOp) (x y : Operand)
 | eqv (neg : Bool) (d : EK) (x y : Operand)
 | eqa (neg : Bool) (ks : List CK) (x y : Operand)
 | un (op : UnOp) (x : Operand)
 | toInt (k : IntKind) (x : Operand)
 | toStr (x : Operand)
 | strId (x : Operand)
 | slId (x : Operand)
 | toBytes (t : Nat) (x : Operand)
 | mkI (t : TypeId) (x : Operand)
 | mkF (fn : Fn) (first cap : List Operand)
 | mkMap
 | mkSl (z : List Value) (bytes : Nat) (len cap : Operand)
 | slS (x : Operand) (lo hi : Option Operand)
 | slV (size : Nat) (x : Operand) (lo hi mx : Option Operand)
 | slA (n size : Nat) (x : Operand) (lo hi mx : Option Operand)
 | fAddr (off : Nat) (x : Operand)
 | fVal (sz : Option Nat) (off : Nat) (x : Operand)
 | iAddrA (n size : Nat) (x i : Operand)
 | iAddrS (size : Nat) (x i : Operand)
 | iValA (n size : Nat) (sz : Option Nat) (x i : Operand)
 | iStr (x i : Operand)
 | look (ks : KD) (z : Value) (x i : Operand) (ok : Bool)
 | mupd (ks : KD) (m k x : Operand)
 | mentry (ks : KD) (z : Value) (m k : Operand)
 | estore (m s x : Operand)
 | rangeS (x : Operand)
 | nextS (it : Operand)
 | rangeM (x : Operand)
 | nextM (it : Operand)
 | entryM (it : Operand)
 | tassert (t : TypeId) (x : Operand)
 | mclone (x : Operand)
 | idxB (s c : Operand)
 | noesc (x : Operand)
 | sdata (x : Operand)
 | ustr (t : TypeId) (p n : Operand)
 | uptr (x : Operand)
 | ptru (t : TypeId) (n : Nat) (x : Operand)
 | allocT (t : Nat) (z : List Value)
 | extr (x : Operand) (i : Nat)
 | lenS (str : Bool) (x : Operand)
 | lenN (n : Nat)
 | lenM (x : Operand)
 | app (esz bytes : Nat) (t : Nat) (s x : Operand)
 | appMk (esz bytes : Nat) (t : Nat) (z : List Value) (s x : Operand)
 | copy (esz : Nat) (d s : Operand)
 | mx (xs : List Operand)
 | mn (xs : List Operand)
 | call (g : FuncId) (args : List Operand)
 | callv (x : Operand) (args : List Operand)
 | mkSlT (t : TypeId) (z : List Value) (bytes : Nat) (l c : Operand)
 | capS (x : Operand)
 | mkNZ (t : TypeId) (x : Operand)
 | cntB (s c : Operand)
 | eqi (neg : Bool) (ts : List TypeId) (x y : Operand)
 | clr (z : List Value) (x : Operand)
 | bad
structure AOper where
 dst : Option Nat
 g : Option (Nat × Bool)
 k : AK
def aev (f : AF) : Operand → Value
 | .tmp t => f t
 | .const v => v
 | .func g => .func (.func g) #[] #[]
 | .global g => .complex .f64 g 0
def acells : Value → List Value
 | .agg cs => cs.toList
 | v => [v]
def mcells : Value → Option (List Value)
 | .agg cs => some cs.toList
 | .chan _ => none
 | .tuple _ => none
 | v => some [v]
def afill : List Value → List (Nat × Nat × Value) → Option (List Value)
 | z,[] => some z
 | z,(off,size,v) :: r =>
   match mcells v with
   | some c => if c.length = size ∧ off + size ≤ z.length then afill (z.take off ++ c ++ z.drop (off + size)) r else none
   | none => none
def abits (op : BinOp) (k : IntKind) (x y : Int) : Int :=
 let a := BitVec.ofInt k.bits x
 let b := BitVec.ofInt k.bits y
 k.wrap (match op with | .and => a &&& b | .or => a ||| b | .xor => a ^^^ b | _ => a &&& ~~~b).toNat
def strLess (a b : ByteArray) : Bool := Op.bytesLess a.toList b.toList
def abin : BinOp → Value → Value → Option Value
 | .add,.int k a,.int k' b => if k = k' then some (.int k (k.wrap (a + b))) else none
 | .sub,.int k a,.int k' b => if k = k' then some (.int k (k.wrap (a - b))) else none
 | .mul,.int k a,.int k' b => if k = k' then some (.int k (k.wrap (a * b))) else none
 | .quo,.int k a,.int k' b => if k = k' ∧ b ≠ 0 then some (.int k (k.wrap (a.tdiv b))) else none
 | .rem,.int k a,.int k' b => if k = k' ∧ b ≠ 0 then some (.int k (a.tmod b)) else none
 | .and,.int k a,.int k' b => if k = k' then some (.int k (abits .and k a b)) else none
 | .or,.int k a,.int k' b => if k = k' then some (.int k (abits .or k a b)) else none
 | .xor,.int k a,.int k' b => if k = k' then some (.int k (abits .xor k a b)) else none
 | .andNot,.int k a,.int k' b => if k = k' then some (.int k (abits .andNot k a b)) else none
 | .shl,.int k a,.int _ b => if 0 ≤ b then some (.int k (k.wrap (a * 2 ^ min b.toNat k.bits))) else none
 | .shr,.int k a,.int _ b => if 0 ≤ b then some (.int k (a.fdiv (2 ^ min b.toNat k.bits))) else none
 | .eql,.int k a,.int k' b => if k = k' then some (.bool (decide (a = b))) else none
 | .neq,.int k a,.int k' b => if k = k' then some (.bool (!decide (a = b))) else none
 | .lss,.int k a,.int k' b => if k = k' then some (.bool (decide (a < b))) else none
 | .leq,.int k a,.int k' b => if k = k' then some (.bool (decide (a ≤ b))) else none
 | .gtr,.int k a,.int k' b => if k = k' then some (.bool (decide (b < a))) else none
 | .geq,.int k a,.int k' b => if k = k' then some (.bool (decide (b ≤ a))) else none
 | .add,.string a,.string b => if a.size + b.size ≤ 9223372036854775807 then some (.string (a ++ b)) else none
 | .eql,.string a,.string b => some (.bool (decide (a = b)))
 | .neq,.string a,.string b => some (.bool (!decide (a = b)))
 | .lss,.string a,.string b => some (.bool (strLess a b))
 | .leq,.string a,.string b => some (.bool (strLess a b || decide (a = b)))
 | .gtr,.string a,.string b => some (.bool (!(strLess a b || decide (a = b))))
 | .geq,.string a,.string b => some (.bool (!strLess a b))
 | _,_,_ => none
def aeqC : CK → Value → Value → Option Bool
 | .i,.int k a,.int k' b => if k = k' then some (decide (a = b)) else none
 | .b,.bool a,.bool b => some (a == b)
 | .s,.string a,.string b => some (decide (a = b))
 | _,_,_ => none
def aeqL : List CK → List Value → List Value → Option Bool
 | [],[],[] => some true
 | k :: ks,x :: xs,y :: ys => match aeqC k x y,aeqL ks xs ys with
   | some a,some b => some (a && b)
   | _,_ => none
 | _,_,_ => none
def aeq : EK → Value → Value → Option Bool
 | .bool,.bool a,.bool b => some (a == b)
 | .ptr,.pointer none,.pointer b => some b.isNone
 | .ptr,.pointer (some _),.pointer none => some false
 | .slc,.slice none _ _,.slice b _ _ => some b.isNone
 | .slc,.slice (some _) _ _,.slice none _ _ => some false
 | .map,.map none,.map b => some b.isNone
 | .map,.map (some _),.map none => some false
 | .fn,.nilFunc,.nilFunc => some true
 | .fn,.nilFunc,.func _ _ _ => some false
 | .fn,.func _ _ _,.nilFunc => some false
 | .ifc,.nilIface,.nilIface => some true
 | .ifc,.nilIface,.iface _ _ => some false
 | .ifc,.iface _ _,.nilIface => some false
 | .pp,.pointer none,.pointer b => some b.isNone
 | .pp,.pointer (some _),.pointer none => some false
 | .pp,.pointer (some a),.pointer (some b) => if a.block = b.block ∧ a.spot = none ∧ b.spot = none then some (decide (a.off = b.off)) else none
 | _,_,_ => none
def aun : UnOp → Value → Option Value
 | .neg,.int k n => some (.int k (k.wrap (0 - n)))
 | .xor,.int k n => some (.int k (abits .xor k (if k.signed then -1 else k.max) n))
 | .not,.bool b => some (.bool !b)
 | _,_ => none
def abytes : List Value → Option (List UInt8)
 | [] => some []
 | .int .u8 n :: r => (abytes r).map (UInt8.ofNat n.toNat :: ·)
 | _ :: _ => none
def aidx (v : Value) (n : Nat) : Option Nat :=
 match v with
 | .int _ i => if 0 ≤ i ∧ i < n then some i.toNat else none
 | _ => none
def abound (v : Value) (n : Nat) : Option Nat :=
 match v with
 | .int _ i => if 0 ≤ i ∧ i ≤ n then some i.toNat else none
 | _ => none
def abounds (len cap : Nat) (lo hi mx : Option Value) : Option (Nat × Nat × Nat) :=
 match (match mx with | some v => abound v cap | none => some cap) with
 | none => none
 | some m =>
   match (match hi with | some v => abound v m | none => if mx.isSome = false ∧ len ≤ m then some len else none) with
   | none => none
   | some h => match (match lo with | some v => abound v h | none => some 0) with
     | none => none
     | some l => some (l,h,m)
def acut (c : List Value) (o n : Nat) : Option (List Value) := if o + n ≤ c.length then some ((c.drop o).take n) else none
def apart (c : List Value) (s : Option Nat) (off : Nat) : Option Value := match s with
 | none => c[off]?
 | some n => (acut c off n).map fun l => .agg l.toArray
def Heap.cellsOf (h : Heap) (b : Nat) : Option (List Value × BMode × Nat) := match h.m b with | some (.cells c m e) => some (c,m,e) | _ => none
def aput (c : List Value) (o : Nat) (vs : List Value) : List Value := c.take o ++ vs ++ c.drop (o + vs.length)
def afirst (h : Heap) (size n : Nat) : Value → Option (List Value)
 | .slice (some a) _ _ => match h.cellsOf a.block with | some (c,_,_) => if a.spot = none then acut c a.off (n * size) else none | none => none
 | .slice none _ _ => if n = 0 then some [] else none
 | .string s => some ((s.data.toList.take n).map fun b => .int .u8 b.toNat)
 | _ => none
def alen : Value → Option Nat
 | .slice _ n _ => some n
 | .string s => some s.size
 | _ => none
def sameKey (d : KD) (a b : Value) : Option Bool :=
 if d.ag then match a,b with
  | .agg xs,.agg ys => aeqL d.ks xs.toList ys.toList
  | _,_ => none
 else match d.ks with
  | [k] => aeqC k a b
  | _ => none
def afind (d : KD) (k : Value) : List MEnt → Nat → Option (Option Nat)
 | [],_ => some none
 | e :: r,i => match sameKey d k e.key with
   | some true => some (some i)
   | some false => afind d k r (i + 1)
   | none => none
def okKey (d : KD) (k : Value) : Bool := sameKey d k k == some true
def BMode.grown (m : BMode) (t : Nat) : BMode := match m with
 | .loose t' => if t' = t then .loose t else .loose 0
 | _ => .loose t
def aapp (h : Heap) (t esz bytes : Nat) (base : Option Addr) (len cap : Nat) (new : List Value) (n : Nat) : Option (Value × Heap) :=
 let need := len + n
 if need * (bytes + 1) ≤ 1099511627776 ∧ new.length = n * esz then
  match base with
  | none => if cap = 0 ∧ len = 0 then if n = 0 then some (.slice none len cap,h) else some (.slice (some ⟨h.n,0,none⟩) need need,h.push (.cells new (.loose t) esz)) else none
  | some a =>
    match h.cellsOf a.block with
    | none => none
    | some (c,m,e) =>
      if a.spot = none then
       match acut c a.off (len * esz) with
       | none => none
       | some old =>
         if m.isLoose = true then
          if e = esz then
           if need ≤ cap then
            if m ≠ .ro ∧ a.off + need * esz ≤ c.length then some (.slice base need cap,h.set a.block (.cells (aput c (a.off + len * esz) new) m e)) else none
           else if a.off + cap * esz = c.length then some (.slice (some ⟨h.n,0,none⟩) need need,(h.kill a.block).push (.cells (old ++ new) (m.grown t) esz))
           else some (.slice (some ⟨h.n,0,none⟩) need need,h.push (.cells (old ++ new) (.loose t) esz))
          else none
         else if need ≤ cap then
          if m ≠ .ro ∧ a.off + need * esz ≤ c.length then some (.slice base need cap,h.set a.block (.cells (aput c (a.off + len * esz) new) m e)) else none
         else some (.slice (some ⟨h.n,0,none⟩) need need,h.push (.cells (old ++ new) (.loose t) esz))
      else none
 else none
def amax2 : Value → Value → Option Value
 | .int k x,.int k' y => if k = k' then some (.int k (max x y)) else none
 | _,_ => none
def amin2 : Value → Value → Option Value
 | .int k x,.int k' y => if k = k' then some (.int k (min x y)) else none
 | _,_ => none
def afold (g : Value → Value → Option Value) : Value → List Value → Option Value
 | x,[] => some x
 | x,y :: r => match g x y with | some z => afold g z r | none => none
def aop (k : AK) (f : AF) (h : Heap) : Option (Value × Heap) :=
 match k with
 | .mv x => some (aev f x,h)
 | .pick c a b => match aev f c with | .bool t => some (if t then aev f a else aev f b,h) | _ => none
 | .alloc z => some (.pointer (some ⟨h.n,0,none⟩),h.push (.cells z .ex 1))
 | .box x => (mcells (aev f x)).map fun c => (.pointer (some ⟨h.n,0,none⟩),h.push (.cells c .ex 1))
 | .build z parts => (afill z (parts.map fun (o,s,x) => (o,s,aev f x))).map fun c => (.agg c.toArray,h)
 | .buildS len z parts => (afill z (parts.map fun (o,s,x) => (o,s,aev f x))).map fun c => (.slice (some ⟨h.n,0,none⟩) len len,h.push (.cells c .ex 1))
 | .load sz a => match aev f a with
   | .pointer (some a) => match h.cellsOf a.block with
     | some (c,_,_) => if a.spot = none then (apart c sz a.off).map fun v => (v,h) else none
     | none => none
   | .complex _ g o => match GT g with
     | some c => (apart c sz o).map fun v => (v,h)
     | none => none
   | _ => none
 | .store sz a x => match aev f a with
   | .pointer (some a) => match h.cellsOf a.block with
     | some (c,m,e) => match mcells (aev f x) with
       | some vs => if a.spot = none ∧ m ≠ .ro ∧ vs.length = sz ∧ a.off + sz ≤ c.length then some (unk,h.set a.block (.cells (aput c a.off vs) m e)) else none
       | none => none
     | none => none
   | _ => none
 | .nilck x => match aev f x with
   | .pointer (some a) => some (.pointer (some a),h)
   | .func (.func g) a b => some (.func (.func g) a b,h)
   | .complex k g o => some (.complex k g o,h)
   | _ => none
 | .bin op x y => (abin op (aev f x) (aev f y)).map fun v => (v,h)
 | .eqv neg d x y => (aeq d (aev f x) (aev f y)).map fun b => (.bool (if neg then !b else b),h)
 | .eqa neg ks x y => match aev f x,aev f y with
   | .agg xs,.agg ys => (aeqL ks xs.toList ys.toList).map fun b => (.bool (if neg then !b else b),h)
   | _,_ => none
 | .un op x => (aun op (aev f x)).map fun v => (v,h)
 | .toInt k x => match aev f x with | .int _ n => some (.int k (k.wrap n),h) | _ => none
 | .toStr x => match aev f x with
   | .slice none _ _ => some (.string ⟨#[]⟩,h)
   | .slice (some a) n c => match afirst h 1 n (.slice (some a) n c) with
     | some l => (abytes l).map fun b => (.string ⟨b.toArray⟩,h)
     | none => none
   | _ => none
 | .strId x => match aev f x with | .string s => some (.string s,h) | _ => none
 | .slId x => match aev f x with
   | .slice (some a) l c => match h.cellsOf a.block with
     | some (_,m,_) => if m = .ro ∨ l = 0 then none else some (.slice (some a) l c,h)
     | none => none
   | _ => none
 | .toBytes t x => match aev f x with
   | .string s => if s.size ≤ 1099511627776 then some (.slice (some ⟨h.n,0,none⟩) s.size s.size,h.push (.cells (s.data.toList.map fun b => .int .u8 b.toNat) (.loose t) 1)) else none
   | _ => none
 | .mkI t x => some (.iface t (aev f x),h)
 | .mkF fn first cap => some (.func fn (first.map (aev f)).toArray (cap.map (aev f)).toArray,h)
 | .mkMap => some (.map (some h.n),h.push (.map [] 0))
 | .mkSl z bytes len cap => match aev f len,aev f cap with
   | .int _ l,.int _ c => if 0 ≤ l ∧ l ≤ c ∧ c * (bytes + 1) ≤ 1099511627776 then
     some (.slice (some ⟨h.n,0,none⟩) l.toNat c.toNat,h.push (.cells ((List.replicate c.toNat z).flatten) .ex 1)) else none
   | _,_ => none
 | .slS x lo hi => match aev f x with
   | .string s => (abounds s.size s.size (lo.map (aev f)) (hi.map (aev f)) none).map fun (l,hh,_) => (.string (s.extract l hh),h)
   | _ => none
 | .slV size x lo hi mx => match aev f x with
   | .slice a len cap => match abounds len cap (lo.map (aev f)) (hi.map (aev f)) (mx.map (aev f)) with
     | none => none
     | some (l,hh,m) => match a with
       | none => some (.slice none (hh - l) (m - l),h)
       | some a => match h.cellsOf a.block with
         | some (_,md,e) => if a.spot = none ∧ (md.isLoose = true → e = size) then some (.slice (some ⟨a.block,a.off + l * size,none⟩) (hh - l) (m - l),h) else none
         | none => none
   | _ => none
 | .slA n size x lo hi mx => match aev f x with
   | .pointer (some a) => match abounds n n (lo.map (aev f)) (hi.map (aev f)) (mx.map (aev f)) with
     | none => none
     | some (l,hh,m) => if a.spot = none then some (.slice (some ⟨a.block,a.off + l * size,none⟩) (hh - l) (m - l),h) else none
   | _ => none
 | .fAddr off x => match aev f x with
   | .pointer (some a) => if a.spot = none then some (.pointer (some ⟨a.block,a.off + off,none⟩),h) else none
   | _ => none
 | .fVal sz off x => match aev f x with
   | .agg cs => (apart cs.toList sz off).map fun v => (v,h)
   | _ => none
 | .iAddrA n size x i => match aev f x with
   | .pointer (some a) => match aidx (aev f i) n with
     | some j => if a.spot = none then some (.pointer (some ⟨a.block,a.off + j * size,none⟩),h) else none
     | none => none
   | .complex k g o => match aidx (aev f i) n with
     | some j => some (.complex k g (o + j * size),h)
     | none => none
   | _ => none
 | .iAddrS size x i => match aev f x with
   | .slice (some a) n _ => match aidx (aev f i) n with
     | some j => if a.spot = none then some (.pointer (some ⟨a.block,a.off + j * size,none⟩),h) else none
     | none => none
   | _ => none
 | .iValA n size sz x i => match aev f x with
   | .agg cs => match aidx (aev f i) n with
     | some j => (apart cs.toList sz (j * size)).map fun v => (v,h)
     | none => none
   | _ => none
 | .iStr x i => match aev f x with
   | .string s => match aidx (aev f i) s.size with
     | some j => (s.data.toList[j]?).map fun b => (.int .u8 b.toNat,h)
     | none => none
   | _ => none
 | .look ks z x i ok => match (match aev f x with
   | .map none => some []
   | .map (some b) => match h.m b with | some (.map es _) => some es | _ => none
   | _ => none) with
  | none => none
  | some es => if okKey ks (aev f i) then match afind ks (aev f i) es 0 with
    | some (some j) => match es[j]? with
      | some e => some (if ok then .tuple #[e.val,.bool true] else e.val,h)
      | none => none
    | some none => some (if ok then .tuple #[z,.bool false] else z,h)
    | none => none
    else none
 | .mupd ks m k x => match aev f m with
   | .map (some b) => match h.m b with
     | some (.map es cl) => if okKey ks (aev f k) then match afind ks (aev f k) es 0 with
       | some (some j) => match es[j]? with
         | some e => some (unk,h.set b (.map (es.set j { e with key := aev f k,val := aev f x }) cl))
         | none => none
       | some none => some (unk,h.set b (.map (es ++ [⟨aev f k,aev f x,cl⟩]) (cl + 1)))
       | none => none
       else none
     | _ => none
   | _ => none
 | .mentry ks z m k => match aev f m with
   | .map (some b) => match h.m b with
     | some (.map es cl) => if okKey ks (aev f k) then match afind ks (aev f k) es 0 with
       | some (some j) => match es[j]? with
         | some e => some (.tuple #[e.val,.int .i64 e.born],h.set b (.map (es.set j { e with key := aev f k }) cl))
         | none => none
       | some none => some (.tuple #[z,.int .i64 cl],h.set b (.map (es ++ [⟨aev f k,z,cl⟩]) (cl + 1)))
       | none => none
       else none
     | _ => none
   | _ => none
 | .estore m s x => match aev f m,aev f s with
   | .map (some b),.int _ s => match h.m b with
     | some (.map es cl) => match es.findIdx? (fun e => decide ((e.born : Int) = s)) with
       | some j => match es[j]? with
         | some e => some (unk,h.set b (.map (es.set j { e with val := aev f x }) cl))
         | none => none
       | none => none
     | _ => none
   | _,_ => none
 | .rangeS x => match aev f x with
   | .string s => some (.pointer (some ⟨h.n,0,none⟩),h.push (.strIter s 0))
   | _ => none
 | .nextS it => match aev f it with
   | .pointer (some ⟨r,0,none⟩) => match h.m r with
     | some (.strIter s p) => match s.data.toList[p]? with
       | some b => if b.toNat < 128 then some (.tuple #[.bool true,.int .i64 p,.int .i32 (b.toNat : Int)],h.set r (.strIter s (p + 1))) else none
       | none => some (.tuple #[.bool false],h)
     | _ => none
   | _ => none
 | .rangeM x => match aev f x with
   | .map none => some (.pointer (some ⟨h.n,0,none⟩),h.push (.mapIter none 0 [] 0))
   | .map (some b) => match h.m b with
     | some (.map _ cl) => some (.pointer (some ⟨h.n,0,none⟩),h.push (.mapIter (some b) cl [] cl))
     | _ => none
   | _ => none
 | .nextM _ => none
 | .entryM it => match aev f it with
   | .pointer (some ⟨r,0,none⟩) => match h.m r with
     | some (.mapIter (some m) _ seen stepped) => match seen.getLast?,h.m m with
       | some stamp,some (.map es cl) => if cl = stepped then (es.find? fun e => e.born == stamp).map fun e => (.tuple #[e.key,e.val],h) else none
       | _,_ => none
     | _ => none
   | _ => none
 | .tassert t x => match aev f x with
   | .iface t' v => if t' = t then some (v,h) else none
   | _ => none
 | .mclone x => match aev f x with
   | .iface t (.map (some b)) => match h.m b with
     | some (.map es cl) => some (.iface t (.map (some h.n)),h.push (.map es cl))
     | _ => none
   | _ => none
 | .idxB s c => match aev f s,aev f c with
   | .string s,.int .u8 c => some (.int .i64 (firstIdx s c.toNat.toUInt8),h)
   | _,_ => none
 | .noesc x => some (aev f x,h)
 | .sdata x => match aev f x with
   | .slice none _ _ => some (.pointer none,h)
   | .slice (some a) _ (_ + 1) => if a.spot = none then some (.pointer (some a),h) else none
   | _ => none
 | .ustr t p n => match aev f p,aev f n with
   | .pointer none,.int .i64 n => if n = 0 then some (.string ⟨#[]⟩,h) else none
   | .pointer (some a),.int .i64 n => if n = 0 then some (.string ⟨#[]⟩,h)
     else if 0 < n ∧ n ≤ 9223372036854775807 ∧ a.spot = none then match h.cellsOf a.block with
      | some (c,m,_) => if (m = .loose t ∧ t ≠ 0) ∨ m = .exT t then match acut c a.off n.toNat with
        | some l => (abytes l).map fun b => (.string ⟨b.toArray⟩,h.kill a.block)
        | none => none
        else none
      | none => none
      else none
   | _,_ => none
 | .uptr x => match aev f x with
   | .pointer none => some (.pointer none,h)
   | .pointer (some a) => match h.cellsOf a.block with
     | some (c,_,_) => if a.spot = none ∧ a.off < c.length then some (.pointer (some a),h) else none
     | none => none
   | _ => none
 | .ptru t n x => match aev f x with
   | .pointer none => some (.pointer none,h)
   | .pointer (some a) => match h.cellsOf a.block with
     | some (c,m,_) => if a.spot = none ∧ a.off = 0 ∧ m = .exT t ∧ c.length = n then some (.pointer (some a),h) else none
     | none => none
   | _ => none
 | .allocT t z => some (.pointer (some ⟨h.n,0,none⟩),h.push (.cells z (.exT t) 1))
 | .extr x i => match aev f x with
   | .tuple vs => (vs.toList[i]?).map fun v => (v,h)
   | _ => none
 | .lenS true x => match aev f x with | .string s => some (.int .i64 s.size,h) | _ => none
 | .lenS false x => match aev f x with | .slice _ n _ => some (.int .i64 n,h) | _ => none
 | .lenN n => some (.int .i64 n,h)
 | .lenM x => match aev f x with
   | .map none => some (.int .i64 0,h)
   | .map (some b) => match h.m b with | some (.map es _) => some (.int .i64 es.length,h) | _ => none
   | _ => none
 | .app esz bytes t s x => match aev f s with
   | .slice base len cap => match alen (aev f x) with
     | some n => match afirst h esz n (aev f x) with
       | some new => aapp h t esz bytes base len cap new n
       | none => none
     | none => none
   | _ => none
 | .appMk esz bytes t z s x => match aev f s,aev f x with
   | .slice base len cap,.int _ n => if 0 ≤ n ∧ n * (bytes + 1) ≤ 1099511627776 then aapp h t esz bytes base len cap (List.replicate n.toNat z).flatten n.toNat else none
   | _,_ => none
 | .copy esz d s => match aev f d,alen (aev f s) with
   | .slice (some a) dl _,some sl => match afirst h esz (min sl dl) (aev f s),h.cellsOf a.block with
     | some new,some (c,m,e) => if a.spot = none ∧ m ≠ .ro ∧ a.off + new.length ≤ c.length then some (.int .i64 ((min sl dl : Nat) : Int),h.set a.block (.cells (aput c a.off new) m e)) else none
     | _,_ => none
   | .slice none dl _,some sl => match afirst h esz (min sl dl) (aev f s) with
     | some _ => some (.int .i64 ((min sl dl : Nat) : Int),h)
     | none => none
   | _,_ => none
 | .clr z x => match aev f x with
   | .slice (some a) (n + 1) _ => match h.cellsOf a.block with
     | some (c,m,e) => if a.spot = none ∧ m ≠ .ro ∧ a.off + (List.replicate (n + 1) z).flatten.length ≤ c.length then some (unk,h.set a.block (.cells (aput c a.off (List.replicate (n + 1) z).flatten) m e)) else none
     | none => none
   | .slice _ 0 _ => some (unk,h)
   | .slice none _ _ => some (unk,h)
   | _ => none
 | .mx xs => match xs.map (aev f) with | x :: r => (afold amax2 x r).map fun v => (v,h) | [] => none
 | .mn xs => match xs.map (aev f) with | x :: r => (afold amin2 x r).map fun v => (v,h) | [] => none
 | .call _ _ => none
 | .callv _ _ => none
 | .mkSlT t z bytes len cap => match aev f len,aev f cap with
   | .int _ l,.int _ c => if 0 ≤ l ∧ l ≤ c ∧ c * (bytes + 1) ≤ 1099511627776 then
     some (.slice (some ⟨h.n,0,none⟩) l.toNat c.toNat,h.push (.cells ((List.replicate c.toNat z).flatten) (.exT t) 1)) else none
   | _,_ => none
 | .capS x => match aev f x with
   | .slice none _ c => some (.int .i64 c,h)
   | .slice (some a) _ c => match h.cellsOf a.block with
     | some (_,md,_) => if md.isLoose = true then none else some (.int .i64 c,h)
     | none => none
   | _ => none
 | .mkNZ t x => match aev f x with
   | .int .i64 n => if 0 < n ∧ n ≤ 1099511627776 then some (.slice (some ⟨h.n,0,none⟩) n.toNat n.toNat,h.push (.cells (List.replicate n.toNat unk) (.loose t) 1)) else none
   | _ => none
 | .cntB s c => match aev f s,aev f c with
   | .string s,.int .u8 c => some (.int .i64 (Lib.countByte s.data.toList c.toNat.toUInt8),h)
   | _,_ => none
 | .eqi neg ts x y => match aev f x,aev f y with
   | .iface t v,.iface t' v' =>
     if t = t' then (if ts.contains t then match v,v' with
      | .int k a,.int k' b => if k = k' then some (.bool (if neg then !decide (a = b) else decide (a = b)),h) else none
      | _,_ => none
      else none)
     else some (.bool neg,h)
   | _,_ => none
 | .bad => none
def callOk (P : Program) (g : FuncId) : Bool := match P.funcs[g]? with
 | some fn => fn.name != "runtime.NumGoroutine" && fn.body.isSome
 | none => false
def nextK (v : Value) (h : Heap) (K : Value → Heap → Prop) : Prop := match v with
 | .pointer (some ⟨r,0,none⟩) => match h.m r with
   | some (.mapIter none _ _ _) => K (.tuple #[.bool false]) h
   | some (.mapIter (some m) since seen last) => match h.m m with
     | some (.map es clock) => (∀ e ∈ es,e.born < since) ∧ (seen = [] ∨ ∀ e ∈ es,e.born < last) ∧
       ((∀ e ∈ es,e.born ∈ seen) → K (.tuple #[.bool false]) h) ∧
       (∀ e ∈ es,e.born ∉ seen → K (.tuple #[.bool true,e.key,e.val]) (h.set r (.mapIter (some m) since (seen ++ [e.born]) clock)))
     | _ => False
   | _ => False
 | _ => False
def aopK (P : Program) (k : AK) (f : AF) (h : Heap) (K : Value → Heap → Prop) : Prop :=
 match k with
 | .call g args => ACalls P g (args.map (aev f)) h K
 | .callv x args => match aev f x with
   | .func (.func g) first cap => callOk P g = true ∧ ACalls P g (first.toList ++ args.map (aev f) ++ cap.toList) h K
   | _ => False
 | .nextM it => nextK (aev f it) h K
 | k => match aop k f h with | some (v,h') => K v h' | none => False
def fput (f : AF) (d : Option Nat) (v : Value) : AF := match d with | some d => fun t => if t = d then v else f t | none => f
def fset (f : AF) (d : Nat) (v : Value) : AF := fun t => if t = d then v else f t
def awpL (P : Program) : List AOper → AF → Heap → (AF → Heap → Prop) → Prop
 | [],f,h,K => K f h
 | ⟨d,none,k⟩ :: r,f,h,K => aopK P k f h fun v h' => awpL P r (fput f d v) h' K
 | ⟨d,some (t,want),k⟩ :: r,f,h,K =>
   match f t with
   | .bool b => (b = want → aopK P k (fset f t (.bool want)) h fun v h' => awpL P r (fput (fset f t (.bool want)) d v) h' K) ∧
     (b = !want → awpL P r (fput (fset f t (.bool !want)) d (.tuple #[])) h K)
   | .tuple _ => awpL P r (fput f d (.tuple #[])) h K
   | _ => False
inductive DT where
 | nil
 | br (w : AOper) (rc e : List AOper) (t alt : DT)
inductive AC where
 | ops (l : List AOper)
 | draw (stages : List (List AOper × List AOper × List AOper))
 | drawT (e : List AOper) (t : DT)
 | seq (a b : AC)
 | cond (c : Operand) (a b : AC)
 | block (id : Nat) (c : AC)
 | loop (c : AC)
 | exit (id : Nat)
 | ret
 | skip
 | refuse
def arecheck : List AOper → AF → Heap → Prop
 | [],_,_ => True
 | ⟨d,g,k⟩ :: r,f,h => ((match g with
   | none => True
   | some (t, want) => f t = .bool want) → ∃ v, aop k f h = some (v, h) ∧ ∀ d', d = some d' → f d' = v) ∧ arecheck r f h
def awpD (P : Program) : List (List AOper × List AOper × List AOper) → AF → Heap → (AF → Heap → Prop) → Prop
 | [],f,h,K => K f h
 | (e,w,rc) :: r,f,h,K => awpL P e f h fun f h => awpL P w f h fun f h => arecheck rc f h ∧ awpD P r f h K
def awpT (P : Program) : Bool → DT → AF → Heap → (AF → Heap → Prop) → Prop
 | true,.nil,f,h,K => K f h
 | false,.nil,_,_,_ => True
 | _,.br w rc e t alt,f,h,K => awpL P [w] f h (fun g h => arecheck rc g h ∧ awpL P e g h (fun g h => awpT P true t g h K)) ∧ awpT P false alt f h K
def Mask (n : Nat) (f2 f : AF) : Prop := ∀ i,f2 i = unk ∨ (f2 i = f i ∧ VBelow n (f2 i))
def awp (P : Program) (n0 : Nat) : AC → AQ → AF → Heap → Prop
 | .ops l,Q,f,h => awpL P l f h (Q .normal)
 | .draw st,Q,f,h => awpD P st f h (Q .normal)
 | .drawT e t,Q,f,h => awpL P e f h fun f h => awpT P true t f h (Q .normal)
 | .seq a b,Q,f,h => awp P n0 a (athen (awp P n0 b Q) Q) f h
 | .cond c a b,Q,f,h => match aev f c with
   | .bool t => (t = true → awp P n0 a Q f h) ∧ (t = false → awp P n0 b Q f h)
   | _ => False
 | .block id c,Q,f,h => awp P n0 c (ablock id Q) f h
 | .loop c,Q,f,h => ∃ I : Nat → AF → Heap → Prop,(∃ m f2 h2,I m f2 h2 ∧ h2.Sub n0 h ∧ Mask h2.n f2 f) ∧ ∀ n f h,I n f h →
   awp P n0 c (athen (fun f' h' => ∃ m f2 h2,m < n ∧ I m f2 h2 ∧ h2.Sub n0 h' ∧ Mask h2.n f2 f') Q) f h
 | .exit id,Q,f,h => Q (.exit id) f h
 | .ret,Q,f,h => Q .ret f h
 | .skip,Q,f,h => Q .normal f h
 | .refuse,_,_,_ => False
end Go.Ab
