/-
  What an operation does on the ideal heap.
-/
import Derived.Test.YtkilagbpemchpaaGreatAeHeap
set_option linter.unusedVariables false
set_option linter.unusedSimpArgs false
namespace Go.Ae
open Go

inductive TD where
  | bool | int (k : IntKind) | str | ptr (e : TypeId) | slice (e : TypeId) | array (n : Nat) (e : TypeId) | map (k e : TypeId)
  | struct (fs : List (Nat × TypeId)) | func

structure TI where
  d : TD
  size : Nat
  bytes : Nat
  zero : Option IV

def TD.agg : TD → Bool
  | .struct _ => true
  | .array _ _ => true
  | _ => false

def ofVal1 : Value → Option IV
  | .bool b => some (.bool b)
  | .int k n => some (.int k n)
  | .string s => some (.str s.data.toList)
  | .pointer none => some (.ptr none)
  | .slice none 0 0 => some (.slice none 0 0 0)
  | .map none => some (.map none)
  | _ => none

def mapO {α β : Type} (f : α → Option β) : List α → Option (List β)
  | [] => some []
  | x :: xs => match f x with
    | none => none
    | some y => match mapO f xs with
      | none => none
      | some ys => some (y :: ys)

def ofVal : Value → Option IV
  | .agg cs => match mapO ofVal1 cs.toList with
    | some l => some (.agg l)
    | none => none
  | v => ofVal1 v

def ev (fr : Tr IV) : Operand → Option IV
  | .tmp t => fr.get t
  | .const v => ofVal v
  | .func f => some (.func f [])
  | .global _ => none

def getCells (h : IH) (b o n : Nat) : Option (List IV) :=
  match h.get b with
  | .cells _ _ cs => if ((cs.drop o).take n).length = n then some ((cs.drop o).take n) else none
  | _ => none

def splice (cs : List IV) (o : Nat) (vs : List IV) : List IV := cs.take o ++ (vs ++ cs.drop (o + vs.length))

def setCells (h : IH) (b o : Nat) (vs : List IV) : Option IH :=
  match h.get b with
  | .cells true ver cs => if o + vs.length ≤ cs.length then (if vs.all IV.one then some (h.write b (.cells true (ver + 1) (splice cs o vs))) else none) else none
  | _ => none

/-- Cells as a value of a type. -/
def asVal (agg : Bool) (l : List IV) : Option IV :=
  if agg then some (.agg l) else match l with
    | [x] => some x
    | _ => none

def partI (agg : Bool) (cs : List IV) (off size : Nat) : Option IV := 
  if ((cs.drop off).take size).length = size then asVal agg ((cs.drop off).take size) else none

def fillI (place : Nat → Option (Nat × Nat)) : List IV → List (Nat × IV) → Option (List IV)
  | cells, [] => some cells
  | cells, (i, v) :: rest => match place i with
    | none => none
    | some (off, size) => if v.cells.length = size then (if off + size ≤ cells.length then fillI place (splice cells off v.cells) rest else none) else none

def ibin (op : BinOp) (x y : IV) : Option IV :=
  match x, y with
  | .int k a, .int k' b =>
    match op with
    | .shl => if b < 0 then none else some (.int k (k.wrap (a * 2 ^ (min b.toNat k.bits))))
    | .shr => if b < 0 then none else some (.int k (a.fdiv (2 ^ (min b.toNat k.bits))))
    | _ => if k = k' then
      match op with
      | .add => some (.int k (k.wrap (a + b)))
      | .sub => some (.int k (k.wrap (a - b)))
      | .mul => some (.int k (k.wrap (a * b)))
      | .quo => if b = 0 then none else some (.int k (k.wrap (a.tdiv b)))
      | .rem => if b = 0 then none else some (.int k (a.tmod b))
      | .and => some (.int k (k.wrap (BitVec.ofInt k.bits a &&& BitVec.ofInt k.bits b).toNat))
      | .or => some (.int k (k.wrap (BitVec.ofInt k.bits a ||| BitVec.ofInt k.bits b).toNat))
      | .xor => some (.int k (k.wrap (BitVec.ofInt k.bits a ^^^ BitVec.ofInt k.bits b).toNat))
      | .eql => some (.bool (a == b))
      | .neq => some (.bool (a != b))
      | .lss => some (.bool (decide (a < b)))
      | .leq => some (.bool (decide (a ≤ b)))
      | .gtr => some (.bool (decide (a > b)))
      | .geq => some (.bool (decide (a ≥ b)))
      | _ => none
      else none
  | .str a, .str b =>
    match op with
    | .add => if a.length + b.length ≤ 9223372036854775807 then some (.str (a ++ b)) else none
    | .eql => some (.bool (a == b))
    | .neq => some (.bool !(a == b))
    | .lss => some (.bool (Op.bytesLess a b))
    | .leq => some (.bool (Op.bytesLess a b || a == b))
    | .gtr => some (.bool (!Op.bytesLess a b && !(a == b)))
    | .geq => some (.bool !(Op.bytesLess a b))
    | _ => none
  | .bool a, .bool b =>
    match op with
    | .eql => some (.bool (a == b))
    | .neq => some (.bool !(a == b))
    | _ => none
  | .slice none _ _ _, .slice b _ _ _ =>
    match op with
    | .eql => some (.bool b.isNone)
    | .neq => some (.bool !b.isNone)
    | _ => none
  | .slice (some _) _ _ _, .slice none _ _ _ =>
    match op with
    | .eql => some (.bool false)
    | .neq => some (.bool true)
    | _ => none
  | .slice0, .slice none _ _ _ =>
    match op with
    | .eql => some (.bool false)
    | .neq => some (.bool true)
    | _ => none
  | _, _ => none

/-- Two values of plain data, field by field. -/
def eqPlain : List IV → List IV → Option Bool
  | [], [] => some true
  | .int k a :: xs, .int k' b :: ys => if k = k' then (if a = b then eqPlain xs ys else (eqPlain xs ys).map fun _ => false) else none
  | _, _ => none

def iun (op : UnOp) (x : IV) : Option IV :=
  match op, x with
  | .not, .bool b => some (.bool !b)
  | .neg, .int k n => some (.int k (k.wrap (0 - n)))
  | _, _ => none

def boundI (x : IV) (y : Nat) : Option Nat :=
  match x with
  | .int _ i => if 0 ≤ i then (if i ≤ (y : Int) then some i.toNat else none) else none
  | _ => none

def optB (x : Option (Option IV)) (y d : Nat) : Option Nat :=
  match x with
  | none => some d
  | some none => none
  | some (some v) => boundI v y

/-- A cut: the slice, its size of elements, the bounds. -/
def sliceI (x : IV) (lo hi mx : Option (Option IV)) : Option IV :=
  if mx.isSome && hi.isNone then none else
  match x with
  | .slice a n c sz => match optB mx c c with
    | none => none
    | some m => match optB hi m n with
      | none => none
      | some h => match optB lo h 0 with
        | none => none
        | some l => if l ≤ h then (if h ≤ m then (match a with
          | none => some (.slice none 0 0 0)
          | some (b, o) => if mx.isSome && m == l then some .slice0 else some (.slice (some (b, o + l * sz)) (h - l) (m - l) sz)) else none) else none
  | .slice0 => match optB mx 0 0 with
    | none => none
    | some m => match optB hi m 0 with
      | none => none
      | some h => match optB lo h 0 with
        | none => none
        | some _ => some .slice0
  | .str s => if mx.isSome then none else match optB hi s.length s.length with
    | none => none
    | some h => match optB lo h 0 with
      | none => none
      | some l => some (.str ((s.drop l).take (h - l)))
  | _ => none

/-- Are two keys one. -/
def keyEq : IV → IV → Option Bool
  | .int k a, .int k' b => if k = k' then some (a == b) else none
  | .str a, .str b => some (a == b)
  | .agg xs, .agg ys => if ys.length = xs.length then eqPlain xs ys else none
  | _, _ => none

/-- The entry of a key. -/
def findI (k : IV) : List (IV × IV × Nat) → Nat → Option (Option (Nat × IV))
  | [], _ => some none
  | e :: es, i => match keyEq k e.1 with
    | some true => some (some (i, e.2.1))
    | some false => findI k es (i + 1)
    | none => none

/-- What came of an operation. -/
inductive INext where
  | val (v : IV) (h : IH)
  | skip (h : IH)
  | call (f : FuncId) (args : List IV) (h : IH)

def IH.news (h : IH) (cs : List IV) : IH := h.alloc (.cells true 0 cs)

def int1 : IV → Option Int
  | .int _ n => some n
  | _ => none

def fieldI (t : TI) (f : Nat) : Option (Nat × TypeId) :=
  match t.d with
  | .struct fs => fs[f]?
  | _ => none

def appendI (sz bytes : Nat) (s : IV) (news : List IV) (n : Nat) (h : IH) : Option INext :=
  if news.all IV.one then
    match s with
    | .slice none _ _ _ => if n = 0 then some (.val s h) else if 0 < bytes ∧ n * bytes ≤ 140737488355328 then some (.val (.slice (some (h.n, 0)) n n sz) (h.news news)) else none
    | .slice0 => if n = 0 then some (.val s h) else if 0 < bytes ∧ n * bytes ≤ 140737488355328 then some (.val (.slice (some (h.n, 0)) n n sz) (h.news news)) else none
    | .slice (some (b, o)) ns c sz' =>
      if sz' = sz then
        if ns + n ≤ c then
          match setCells h b (o + ns * sz) news with
          | some h1 => some (.val (.slice (some (b, o)) (ns + n) c sz) h1)
          | none => none
        else match h.get b with
          | .cells true ver cs =>
            if ((cs.drop o).take (ns * sz)).length = ns * sz then
              if 0 < bytes ∧ (ns + n) * bytes ≤ 140737488355328 then some (.val (.slice (some (h.n, 0)) (ns + n) (ns + n) sz) ((h.write b (.dead (ver + 1))).news ((cs.drop o).take (ns * sz) ++ news))) else none
            else none
          | _ => none
      else none
    | _ => none
  else none

def lenI (t : TI) (x : IV) (h : IH) : Option Int :=
  match t.d, x with
  | .str, .str s => some s.length
  | .array n _, _ => some n
  | .slice _, .slice _ n _ _ => some n
  | .slice _, .slice0 => some 0
  | .map _ _, .map none => some 0
  | .map _ _, .map (some r) => match h.get r with
    | .map _ es _ => some es.length
    | _ => none
  | _, _ => none

def keyShape (n : Nat) (k : IV) : Bool :=
  match k with
  | .agg cs => cs.length == n && cs.all fun x => match x with | .int .i64 _ => true | _ => false
  | _ => false

/-- May a key be of this type: a whole number, a string, or (by the table) a struct of so many ints. -/
def keyI (ty : TypeId → Option TI) (sk : TypeId → Option Nat) (kt : TypeId) (k : IV) : Bool :=
  match ty kt with
  | some t => match t.d, k with
    | .int _, .int _ _ => true
    | .str, .str _ => true
    | .struct _, k => match sk kt with
      | some n => keyShape n k
      | none => false
    | _, _ => false
  | none => false

structure Tabs where
  ty : TypeId → Option TI
  sk : TypeId → Option Nat
  eq : TypeId → Option Nat

/-- The entries of a map. -/
def entsI (x : IV) (h : IH) : Option (List (IV × IV × Nat)) :=
  match x with
  | .map none => some []
  | .map (some r) => match h.get r with
    | .map _ es _ => some es
    | _ => none
  | _ => none

def parts (fr : Tr IV) : List (Nat × Operand) → Option (List (Nat × IV))
  | [] => some []
  | (i, x) :: rest => match ev fr x with
    | none => none
    | some v => match parts fr rest with
      | none => none
      | some l => some ((i, v) :: l)

def placeOf (T : Tabs) (fs : List (Nat × TypeId)) (i : Nat) : Option (Nat × Nat) :=
  match fs[i]? with
  | none => none
  | some (off, t) => match T.ty t with
    | some ti => some (off, ti.size)
    | none => none

def optEv (fr : Tr IV) : Option Operand → Option (Option IV)
  | none => none
  | some x => some (ev fr x)

def tyAt (T : Tabs) (c : Call) (i : Nat) : Option TI :=
  match c.argTypes[i]? with
  | some t => T.ty t
  | none => none

def callI (T : Tabs) (fr : Tr IV) (c : Call) (h : IH) : Option INext :=
  match mapO (ev fr) c.args.toList with
  | none => none
  | some xs => match c.callee with
    | .value f => match ev fr f with
      | some (.func g cap) => some (.call g (xs ++ cap) h)
      | _ => none
    | .invoke _ _ => none
    | .builtin b => match b, xs with
      | .len, [x] => match tyAt T c 0 with
        | some t => (lenI t x h).map fun n => .val (.int .i64 n) h
        | none => none
      | .cap, [.slice none _ _ _] => match tyAt T c 0 with
        | some t => match t.d with
          | .slice _ => some (.val (.int .i64 0) h)
          | _ => none
        | none => none
      | .append, [s, x] => match tyAt T c 0, tyAt T c 1 with
        | some t, some t1 => match t.d, t1.d with
          | .slice e, .slice _ => match T.ty e with
            | some te => match te.zero with
              | some _ => match x with
                | .slice none _ _ _ => appendI te.size te.bytes s [] 0 h
                | .slice0 => appendI te.size te.bytes s [] 0 h
                | .slice (some (b, o)) n _ _ => match getCells h b o (n * te.size) with
                  | some news => appendI te.size te.bytes s news n h
                  | none => none
                | _ => none
              | none => none
            | none => none
          | _, _ => none
        | _, _ => none
      | .clear, [x] => match tyAt T c 0 with
        | some t => match t.d with
          | .slice e => match T.ty e with
            | some te => match te.zero, x with
              | _, .slice none _ _ _ => some (.val (.tuple []) h)
              | _, .slice0 => some (.val (.tuple []) h)
              | some z, .slice (some (b, o)) n _ _ => if n = 0 then some (.val (.tuple []) h) else (setCells h b o (List.replicate n z.cells).flatten).map fun h1 => .val (.tuple []) h1
              | _, _ => none
            | none => none
          | _ => none
        | none => none
      | .min, [.int k a, .int _ b] => some (.val (.int k (if b < a then b else a)) h)
      | .max, [.int k a, .int _ b] => some (.val (.int k (if a < b then b else a)) h)
      | _, _ => none

def iop (T : Tabs) (fr : Tr IV) (o : Oper) (h : IH) : Option INext :=
  match o.op with
  | .move x | .assign x => (ev fr x).map fun v => .val v h
  | .pick c a b => match ev fr c with
    | some (.bool t) => (ev fr (if t then a else b)).map fun v => .val v h
    | _ => none
  | .alloc t => match T.ty t with
    | some ti => match ti.zero with
      | some z => if z.cells.all IV.one then some (.val (.ptr (some (h.n, 0))) (h.news z.cells)) else none
      | none => none
    | none => none
  | .box _ x => match ev fr x with
    | some v => if v.cells.all IV.one then some (.val (.ptr (some (h.n, 0))) (h.news v.cells)) else none
    | none => none
  | .build t ps => match T.ty t, parts fr ps.toList with
    | some ti, some l => match ti.zero with
      | some z => match ti.d with
        | .struct fs => (fillI (placeOf T fs) z.cells l).map fun cs => .val (.agg cs) h
        | .array _ e => match T.ty e with
          | some te => (fillI (fun i => some (i * te.size, te.size)) z.cells l).map fun cs => .val (.agg cs) h
          | none => none
        | _ => none
      | none => none
    | _, _ => none
  | .buildSlice t len ps => match T.ty t, parts fr ps.toList with
    | some ti, some l => match ti.d with
      | .slice e => match T.ty e with
        | some te => match te.zero with
          | some z => if len * te.size ≤ 16777216 then match fillI (fun i => some (i * te.size, te.size)) (List.replicate len z.cells).flatten l with
            | some cs => if cs.all IV.one then some (.val (.slice (some (h.n, 0)) len len te.size) (h.news cs)) else none
            | none => none else none
          | none => none
        | none => none
      | _ => none
    | _, _ => none
  | .load t a => match T.ty t, ev fr a with
    | some ti, some (.ptr (some (b, o))) => match getCells h b o (if ti.d.agg then ti.size else 1) with
      | some l => (asVal ti.d.agg l).map fun v => .val v h
      | none => none
    | _, _ => none
  | .store t a x => match T.ty t, ev fr a, ev fr x with
    | some ti, some (.ptr (some (b, o))), some v => if v.cells.length = ti.size then (setCells h b o v.cells).map fun h1 => .skip h1 else none
    | _, _, _ => none
  | .nilCheck x => match ev fr x with
    | some (.ptr (some a)) => some (.val (.ptr (some a)) h)
    | some (.func f cap) => some (.val (.func f cap) h)
    | _ => none
  | .binOp op t x y _ => match ev fr x, ev fr y with
    | some (.agg xs), some (.agg ys) => match T.eq t with
      | some n => if xs.length = n then if ys.length = n then match eqPlain xs ys with
        | some r => match op with
          | .eql => some (.val (.bool r) h)
          | .neq => some (.val (.bool !r) h)
          | _ => none
        | none => none else none else none
      | none => none
    | some a, some b => match T.ty t with
      | some ti => match ti.d, a with
        | .bool, .bool _ | .int _, .int _ _ | .str, .str _ | .slice _, .slice _ _ _ _ | .slice _, .slice0 => (ibin op a b).map fun v => .val v h
        | _, _ => none
      | none => none
    | _, _ => none
  | .unOp op _ x => match ev fr x with
    | some v => (iun op v).map fun u => .val u h
    | none => none
  | .convert s d x => match T.ty s, T.ty d, ev fr x with
    | some _, some td, some v => match td.d, v with
      | .int k, .int _ n => some (.val (.int k (k.wrap n)) h)
      | _, _ => none
    | _, _, _ => none
  | .makeFunc (.func f) first cap => if first.size = 0 then (mapO (ev fr) cap.toList).map fun l => .val (.func f l) h else none
  | .makeMap _ none => some (.val (.map (some h.n)) (h.alloc (.map 0 [] 0)))
  | .makeSlice t l c => match T.ty t, ev fr l, ev fr c with
    | some ti, some (.int _ n), some (.int _ m) => match ti.d with
      | .slice e => match T.ty e with
        | some te => match te.zero with
          | some z => if n = m then (if 0 ≤ n then (if te.bytes * n ≤ 281474976710656 then (if n ≤ 9223372036854775807 then (if z.cells.all IV.one then (if z.cells.length = te.size then
              some (.val (.slice (some (h.n, 0)) n.toNat n.toNat te.size) (h.news (List.replicate n.toNat z.cells).flatten)) else none) else none) else none) else none) else none) else none
          | none => none
        | none => none
      | _ => none
    | _, _, _ => none
  | .slice t x lo hi mx => match T.ty t, ev fr x with
    | some ti, some v => match ti.d, v with
      | .array n e, .ptr (some (b, o)) => match T.ty e, lo, hi, mx with
        | some te, none, none, none => if n * te.size = 0 then none else match getCells h b o (n * te.size) with
          | some _ => some (.val (.slice (some (b, o)) n n te.size) h)
          | none => none
        | _, _, _, _ => none
      | .slice e, v => match T.ty e with
        | some te => match v with
          | .slice (some _) _ _ sz => if sz = te.size then (sliceI v (optEv fr lo) (optEv fr hi) (optEv fr mx)).map fun r => .val r h else none
          | .slice none _ _ _ => (sliceI v (optEv fr lo) (optEv fr hi) (optEv fr mx)).map fun r => .val r h
          | .slice0 => (sliceI v (optEv fr lo) (optEv fr hi) (optEv fr mx)).map fun r => .val r h
          | _ => none
        | none => none
      | .str, .str s => (sliceI (.str s) (optEv fr lo) (optEv fr hi) (optEv fr mx)).map fun r => .val r h
      | _, _ => none
    | _, _ => none
  | .fieldAddr t x f => match T.ty t, ev fr x with
    | some ti, some (.ptr (some (b, o))) => match fieldI ti f with
      | some (off, t1) => match T.ty t1 with
        | some t1i => if t1i.size = 0 then none else some (.val (.ptr (some (b, o + off))) h)
        | none => none
      | none => none
    | _, _ => none
  | .field t x f => match T.ty t, ev fr x with
    | some ti, some (.agg cs) => match fieldI ti f with
      | some (off, t1) => match T.ty t1 with
        | some t1i => (partI t1i.d.agg cs off (if t1i.d.agg then t1i.size else 1)).map fun v => .val v h
        | none => none
      | none => none
    | _, _ => none
  | .indexAddr t x i => match T.ty t, ev fr x, ev fr i with
    | some ti, some v, some (.int _ k) => match ti.d, v with
      | .slice e, .slice (some (b, o)) n _ sz => match T.ty e with
        | some te => if sz = te.size then (if 0 ≤ k then (if k < (n : Int) then some (.val (.ptr (some (b, o + k.toNat * te.size))) h) else none) else none) else none
        | none => none
      | .array n e, .ptr (some (b, o)) => match T.ty e with
        | some te => if 0 ≤ k then (if k < (n : Int) then some (.val (.ptr (some (b, o + k.toNat * te.size))) h) else none) else none
        | none => none
      | _, _ => none
    | _, _, _ => none
  | .index t x i => match T.ty t, ev fr x, ev fr i with
    | some ti, some v, some (.int _ k) => match ti.d, v with
      | .array n e, .agg cs => match T.ty e with
        | some te => if 0 ≤ k then (if k < (n : Int) then (partI te.d.agg cs (k.toNat * te.size) (if te.d.agg then te.size else 1)).map fun r => .val r h else none) else none
        | none => none
      | .str, .str s => if 0 ≤ k then match s[k.toNat]? with
        | some b => some (.val (.int .u8 b.toNat) h)
        | none => none else none
      | _, _ => none
    | _, _, _ => none
  | .lookup t x k ok => match T.ty t, ev fr x, ev fr k with
    | some ti, some m, some kv => match ti.d with
      | .map kt e => match T.ty e with
        | some te => match te.zero, entsI m h with
          | some z, some es => if keyI T.ty T.sk kt kv then match findI kv es 0 with
            | some r => let (v, b) := match r with | some (_, v) => (v, true) | none => (z, false)
              some (.val (if ok then .tuple [v, .bool b] else v) h)
            | none => none else none
          | _, _ => none
        | none => none
      | _ => none
    | _, _, _ => none
  | .mapUpdate t m k x => match T.ty t, ev fr m, ev fr k, ev fr x with
    | some ti, some (.map (some r)), some kv, some v => match ti.d, h.get r with
      | .map kt _, .map ver es clock => if keyI T.ty T.sk kt kv then match findI kv es 0 with
        | some (some (i, _)) => some (.skip (h.write r (.map (ver + 1) (es.modify i fun e => (kv, v, e.2.2)) clock)))
        | some none => some (.skip (h.write r (.map (ver + 1) (es ++ [(kv, v, clock)]) (clock + 1))))
        | none => none else none
      | _, _ => none
    | _, _, _, _ => none
  | .mapEntry t m k => match T.ty t, ev fr m, ev fr k with
    | some ti, some (.map (some r)), some kv => match ti.d, h.get r with
      | .map kt e, .map ver es clock => if keyI T.ty T.sk kt kv then match T.ty e with
        | some te => match te.zero, findI kv es 0 with
          | _, some (some (i, v)) => match es[i]? with
            | some e => some (.val (.tuple [v, .int .i64 e.2.2]) (h.write r (.map (ver + 1) (es.modify i fun e => (kv, e.2.1, e.2.2)) clock)))
            | none => none
          | some z, some none => some (.val (.tuple [z, .int .i64 clock]) (h.write r (.map (ver + 1) (es ++ [(kv, z, clock)]) (clock + 1))))
          | _, _ => none
        | none => none else none
      | _, _ => none
    | _, _, _ => none
  | .entryStore _ m s x => match ev fr m, ev fr s, ev fr x with
    | some (.map (some r)), some (.int _ born), some v => match h.get r with
      | .map ver es clock => match es.findIdx? (fun e => (e.2.2 : Int) == born) with
        | some i => some (.skip (h.write r (.map (ver + 1) (es.modify i fun e => (e.1, v, e.2.2)) clock)))
        | none => none
      | _ => none
    | _, _, _ => none
  | .extract x i => match ev fr x with
    | some (.tuple l) => (l[i]?).map fun v => .val v h
    | _ => none
  | .call c => callI T fr c h
  | _ => none

end Go.Ae
