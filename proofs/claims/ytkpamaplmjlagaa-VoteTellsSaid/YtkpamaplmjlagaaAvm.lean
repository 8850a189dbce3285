/-
  The abstract machine: a deterministic interpreter of the model's code over lists of objects, without tape, worlds and capacities.
-/
import Derived.Calls
import Derived.Orders
namespace Go.Ab
open Go

/-- An abstract object: a row of cells (those below 'lo' are shared with an elder row: not written; 'op': may it be written, and appended to?), a map, or nothing that may be looked at. -/
inductive AObj where
  | arr (cells : List Value) (lo : Nat) (op : Bool)
  | mp (es : List (Value × Value))
  | dead
  deriving Inhabited

/-- The objects; elder objects into which something younger was stored. -/
structure S where
  σ : List AObj
  ev : List Nat

abbrev Fr := List (Nat × Value)

def lk (t : Nat) : Fr → Option Value
  | [] => none
  | (u, v) :: r => if u = t then some v else lk t r

def kill (l : List Nat) (fr : Fr) : Fr := l.filterMap fun t => (lk t fr).map (t, ·)

def plain1 : Value → Bool
  | .bool _ | .int _ _ | .string _ | .pointer none | .map none | .nilFunc | .nilIface => true
  | .slice none 0 0 => true
  | _ => false

def plain : Value → Bool
  | .agg cs => cs.toList.all plain1
  | v => plain1 v

def isCell : Value → Bool
  | .agg _ | .tuple _ => false
  | _ => true

/-- What may be captured. -/
def simple0 : Value → Bool
  | .pointer (some ⟨_, _, none⟩) | .map (some _) => true
  | .slice (some ⟨_, _, none⟩) _ _ => true
  | v => plain1 v

def refs0 : Value → List Nat
  | .pointer (some a) => [a.block]
  | .slice (some a) _ _ => [a.block]
  | .map (some m) => [m]
  | _ => []

def refs1 : Value → List Nat
  | .func _ first captured => first.toList.flatMap refs0 ++ captured.toList.flatMap refs0
  | v => refs0 v

def refs2 : Value → List Nat
  | .agg cs => cs.toList.flatMap refs1
  | v => refs1 v

def refs : Value → List Nat
  | .tuple vs => vs.toList.flatMap refs2
  | v => refs2 v

def quiet {α : Type} (P : Program) : Sem α → Option α
  | .pure a => some a
  | .program k => quiet P (k P)
  | _ => none

/-- The model's own operation, where it only computes, and what it makes is plain. -/
def quietP (P : Program) (s : Sem Value) : Option Value := (quiet P s).bind fun v => if plain v then some v else none

def aggT (P : Program) (t : TypeId) : Option Bool :=
  match P.underlying t with
  | some (.struct _) | some (.array _ _) => some true
  | some _ => some false
  | none => none
def sizeT (P : Program) (t : TypeId) : Option Nat := (P.info? t).map (·.size)
def bytesT (P : Program) (t : TypeId) : Option Nat := (P.info? t).map (·.bytes)
def zeroT (P : Program) (t : TypeId) : Option Value :=
  match (P.info? t).bind (·.zero) with
  | some v => if plain v then some v else none
  | none => none
def elemT (P : Program) (t : TypeId) : Option TypeId :=
  match P.underlying t with
  | some (.slice e) => some e
  | _ => none

def ptr (b o : Nat) : Value := .pointer (some ⟨b, o, none⟩)
/-- A slice of n elements of k cells; f = 1: its capacity is n. -/
def sl (b o n k f : Nat) : Value := .slice (some ⟨b, o, none⟩) n (2 * k + f)
def nils : Value := .slice none 0 0

def row (s : S) (b : Nat) : Option (List Value) :=
  match s.σ[b]? with
  | some (.arr c _ _) => some c
  | _ => none

def ld1 (s : S) : Value → Option Value
  | .pointer (some ⟨b, o, none⟩) => (row s b).bind fun c => c[o]?
  | _ => none
def ldn (n : Nat) (s : S) : Value → Option Value
  | .pointer (some ⟨b, o, none⟩) => (row s b).bind fun c => if o + n ≤ c.length then some (.agg ((c.drop o).take n).toArray) else none
  | _ => none
def pLoad (P : Program) (t : TypeId) (s : S) (p : Value) : Option Value :=
  (aggT P t).bind fun ag => if ag then (sizeT P t).bind fun n => ldn n s p else ld1 s p

def setCells (c : List Value) (o : Nat) : List Value → List Value
  | [] => c
  | v :: vs => setCells (c.set o v) (o + 1) vs

def evUpd (h b : Nat) (vs : List Value) (ev : List Nat) : List Nat :=
  if h ≤ b || (vs.flatMap refs1).all (fun j => decide (j < b)) then ev else ev ++ [b]

def stn (h : Nat) (s : S) (vs : List Value) : Value → Option S
  | .pointer (some ⟨b, o, none⟩) =>
    match s.σ[b]? with
    | some (.arr c lo true) =>
      if lo ≤ o ∧ o + vs.length ≤ c.length ∧ vs.all isCell then some ⟨s.σ.set b (.arr (setCells c o vs) lo true), evUpd h b vs s.ev⟩ else none
    | _ => none
  | _ => none
def stv (n h : Nat) (s : S) (p v : Value) : Option S := if v.cells.size = n then stn h s v.cells.toList p else none
def pStore (P : Program) (h : Nat) (t : TypeId) (s : S) (p v : Value) : Option S :=
  (sizeT P t).bind fun n => stv n h s p v

def boxc (s : S) (cells : List Value) : Option (Value × S) :=
  if cells.all isCell then some (ptr s.σ.length 0, ⟨s.σ ++ [.arr cells 0 true], s.ev⟩) else none

def padd (n : Nat) : Value → Option Value
  | .pointer (some ⟨b, o, none⟩) => some (ptr b (o + n))
  | _ => none

def pFieldAddr (P : Program) (t : TypeId) (f : Nat) (p : Value) : Option Value :=
  match P.underlying t with
  | some (.struct fs) =>
    match fs[f]? with
    | some fd => if sizeT P fd.type = some 0 ∨ sizeT P fd.type = none then none else padd fd.offset p
    | none => none
  | _ => none

def idxArr (len size : Nat) (x : Value) : Value → Option Value
  | .int _ i => if 0 ≤ i ∧ i < (len : Int) then padd (i.toNat * size) x else none
  | _ => none
def idxSl (size : Nat) (x : Value) : Value → Option Value
  | .int _ i =>
    match x with
    | .slice (some ⟨b, o, none⟩) n c => if c / 2 = size ∧ 0 ≤ i ∧ i < (n : Int) then some (ptr b (o + i.toNat * size)) else none
    | _ => none
  | _ => none
def pIndexAddr (P : Program) (t : TypeId) (x i : Value) : Option Value :=
  match P.underlying t with
  | some (.array len e) => (sizeT P e).bind fun n => idxArr len n x i
  | some (.slice e) => (sizeT P e).bind fun n => idxSl n x i
  | _ => none

def part (P : Program) (t : TypeId) (cs : Array Value) (off : Nat) : Option Value :=
  (aggT P t).bind fun ag => if ag then (sizeT P t).bind fun n => some (.agg (cs.extract off (off + n))) else cs[off]?

/-- A part of an aggregate. -/
def fldV (ag : Bool) (n off : Nat) : Value → Option Value
  | .agg cs => if ag then some (.agg (cs.extract off (off + n))) else cs[off]?
  | _ => none
def pField (P : Program) (t : TypeId) (f : Nat) (x : Value) : Option Value :=
  match P.underlying t with
  | some (.struct fs) => (fs[f]?).bind fun fd => (aggT P fd.type).bind fun ag => (sizeT P fd.type).bind fun n => fldV ag n fd.offset x
  | _ => none

/-- A part of an array's value. -/
def idxV (ag : Bool) (len n : Nat) (x : Value) : Value → Option Value
  | .int _ i => if 0 ≤ i ∧ i < (len : Int) then fldV ag n (i.toNat * n) x else none
  | _ => none
def pIndex (P : Program) (t : TypeId) (x i : Value) : Option Value :=
  match P.underlying t with
  | some (.array len e) => (aggT P e).bind fun ag => (sizeT P e).bind fun n => idxV ag len n x i
  | _ => if plain x && plain i then quietP P (Instr.index t x i) else none

/-- A bound of a slice expression. -/
def bnd (d : Nat) : Option Value → Option Nat
  | none => some d
  | some (.int _ i) => if 0 ≤ i then some i.toNat else none
  | some _ => none

def sliceArr (n size : Nat) (s : S) (lo hi mx : Option Value) : Value → Option Value
  | .pointer (some ⟨b, o, none⟩) =>
    (row s b).bind fun c => (bnd 0 lo).bind fun l => (bnd n hi).bind fun h => (bnd n mx).bind fun m =>
      if l ≤ h ∧ h ≤ m ∧ m ≤ n ∧ o + n * size ≤ c.length ∧ (hi.isNone → mx.isNone) then some (sl b (o + l * size) (h - l) size (if h = m then 1 else 0)) else none
  | _ => none
def sliceSl (size : Nat) (lo hi mx : Option Value) : Value → Option Value
  | .slice (some ⟨b, o, none⟩) n c =>
    if c / 2 = size then
      (bnd 0 lo).bind fun l => (bnd n hi).bind fun h =>
        match mx with
        | some m => (bnd n (some m)).bind fun m => if l ≤ h ∧ h ≤ m ∧ m ≤ n ∧ hi.isSome then some (sl b (o + l * size) (h - l) size (if h = m then 1 else 0)) else none
        | none => if l ≤ h ∧ h ≤ n then some (sl b (o + l * size) (h - l) size (if c % 2 = 1 ∧ h = n then 1 else 0)) else none
    else none
  | .slice none 0 0 =>
    (bnd 0 lo).bind fun l => (bnd 0 hi).bind fun h => (bnd 0 mx).bind fun m => if l = 0 ∧ h = 0 ∧ m = 0 ∧ (hi.isNone → mx.isNone) then some nils else none
  | _ => none
def pSlice (P : Program) (t : TypeId) (s : S) (x : Value) (lo hi mx : Option Value) : Option Value :=
  match P.underlying t with
  | some (.array n e) => (sizeT P e).bind fun z => sliceArr n z s lo hi mx x
  | some (.slice e) => (sizeT P e).bind fun z => sliceSl z lo hi mx x
  | some .string => if plain x && (lo.all plain) && (hi.all plain) && mx.isNone then quietP P (Instr.slice t x lo hi none) else none
  | _ => none

def fillA (place : Nat → Option (Nat × Nat)) (cells : Array Value) (parts : List (Nat × Value)) : Option (Array Value) := Instr.fill place cells parts

def bldV (z : Value) (pl : Nat → Option (Nat × Nat)) (parts : List (Nat × Value)) : Option Value :=
  if parts.all (fun p => p.2.cells.all isCell) then (Instr.fill pl z.cells parts).map .agg else none
def pBuild (P : Program) (t : TypeId) (parts : List (Nat × Value)) : Option Value :=
  (zeroT P t).bind fun z =>
    match P.underlying t with
    | some (.struct fs) => (fs.mapM fun f => (sizeT P f.type).map (f.offset, ·)).bind fun places => bldV z (places[·]?) parts
    | some (.array _ e) => (sizeT P e).bind fun n => bldV z (fun i => some (i * n, n)) parts
    | _ => none

def mkCells (z : Array Value) (n : Nat) : List Value :=
  if z.size = 1 then List.replicate n (z.getD 0 undef) else (List.range (n * z.size)).map fun i => z.getD (i % z.size) undef

def bldSl (n : Nat) (z : Value) (len : Nat) (parts : List (Nat × Value)) (s : S) : Option (Value × S) :=
  if len * n ≤ 2 ^ 24 ∧ z.cells.size = n ∧ n ≠ 0 ∧ parts.all (fun p => p.2.cells.all isCell) then
    (Instr.fill (fun i => some (i * n, n)) (mkCells z.cells len).toArray parts).bind fun cells =>
      some (sl s.σ.length 0 len n 1, ⟨s.σ ++ [.arr cells.toList 0 true], s.ev⟩)
  else none
def pBuildSlice (P : Program) (t : TypeId) (len : Nat) (parts : List (Nat × Value)) (s : S) : Option (Value × S) :=
  (elemT P t).bind fun e => (sizeT P e).bind fun n => (zeroT P e).bind fun z => bldSl n z len parts s

def mkSl (n by_ : Nat) (z : Value) (len cap : Value) (s : S) : Option (Value × S) :=
  match len, cap with
  | .int .i64 l, .int .i64 c =>
    if 0 ≤ l ∧ l ≤ c ∧ c ≤ 2 ^ 46 ∧ c * by_ ≤ 2 ^ 46 ∧ z.cells.size = n ∧ n ≠ 0 then
      some (sl s.σ.length 0 l.toNat n (if l = c then 1 else 0), ⟨s.σ ++ [.arr (mkCells z.cells l.toNat) 0 true], s.ev⟩)
    else none
  | _, _ => none
def pMakeSlice (P : Program) (t : TypeId) (len cap : Value) (s : S) : Option (Value × S) :=
  (elemT P t).bind fun e => (sizeT P e).bind fun n => (bytesT P e).bind fun by_ => (zeroT P e).bind fun z => mkSl n by_ z len cap s

/-- The cells of a slice, or a string. -/
def cellsOf (s : S) (k : Nat) : Value → Option (List Value)
  | .slice none 0 0 => some []
  | .slice (some ⟨b, o, none⟩) n c => if c / 2 = k then (row s b).bind fun r => if o + n * k ≤ r.length then some ((r.drop o).take (n * k)) else none else none
  | .string x => if k = 1 then some (x.data.toList.map fun b => .int .u8 b.toNat) else none
  | _ => none
def lenV : Value → Option Nat
  | .slice _ n _ => some n
  | .string x => some x.size
  | _ => none

def appendA (k by_ : Nat) (x y : Value) (s : S) : Option (Value × S) :=
  (cellsOf s k y).bind fun new => (lenV y).bind fun m =>
    match x with
    | .slice none 0 0 =>
      if m = 0 then some (nils, s)
      else if m * by_ ≤ 2 ^ 46 ∧ m ≤ 2 ^ 46 then some (sl s.σ.length 0 m k 0, ⟨s.σ ++ [.arr new 0 true], s.ev⟩) else none
    | .slice (some ⟨b, o, none⟩) n c =>
      if c / 2 = k then
        match s.σ[b]? with
        | some (.arr r lo op) =>
          if o + n * k ≤ r.length ∧ (n + m) * by_ ≤ 2 ^ 46 ∧ n + m ≤ 2 ^ 46 then
            if m = 0 then some (x, s)
            else if c % 2 = 1 then some (sl s.σ.length 0 (n + m) k 0, ⟨s.σ ++ [.arr ((r.drop o).take (n * k) ++ new) 0 true], s.ev⟩)
            else if op = true ∧ o + n * k = r.length ∧ lo ≤ o + n * k then
              some (sl s.σ.length 0 (n + m) k 0, ⟨s.σ.set b (.arr r lo false) ++ [.arr ((r.drop o).take (n * k) ++ new) (n * k) true], s.ev⟩)
            else none
          else none
        | _ => none
      else none
    | _ => none
def pAppend (P : Program) (ts : Array TypeId) (x y : Value) (s : S) : Option (Value × S) :=
  match ts[0]?, ts[1]? with
  | some t, some u =>
    match P.underlying u with
    | some (.slice _) | some .string => (elemT P t).bind fun e => (sizeT P e).bind fun k => (bytesT P e).bind fun by_ => (zeroT P e).bind fun z => if by_ ≠ 0 ∧ k ≠ 0 ∧ z.cells.size = k then appendA k by_ x y s else none
    | _ => none
  | _, _ => none

def copyA (h k : Nat) (x y : Value) (s : S) : Option (Value × S) :=
  (cellsOf s k y).bind fun cs => (lenV y).bind fun m =>
    match x with
    | .slice none 0 0 => some (.int .i64 0, s)
    | .slice (some ⟨b, o, none⟩) n c =>
      if c / 2 = k then
        if min m n = 0 then some (.int .i64 0, s)
        else (stn h s (cs.take (min m n * k)) (ptr b o)).map fun s' => (.int .i64 (min m n : Nat), s')
      else none
    | _ => none
def pCopy (P : Program) (h : Nat) (ts : Array TypeId) (x y : Value) (s : S) : Option (Value × S) :=
  match ts[0]? with
  | some t => (elemT P t).bind fun e => (sizeT P e).bind fun k => copyA h k x y s
  | none => none

def lenSl : Value → Option Value
  | .slice _ n _ => some (.int .i64 n)
  | _ => none
def lenStr : Value → Option Value
  | .string b => some (.int .i64 b.size)
  | _ => none
def lenMap0 : Value → Option Value
  | .map none => some (.int .i64 0)
  | _ => none
def pLen (P : Program) (ts : Array TypeId) (x : Value) : Option Value :=
  match ts[0]? with
  | some t =>
    match P.underlying t with
    | some .string => lenStr x
    | some (.array n _) => some (.int .i64 n)
    | some (.slice _) => lenSl x
    | some (.map _ _) => lenMap0 x
    | _ => none
  | none => none

/-- Is the one of them nil, and the other not? -/
def nilP : Value → Value → Bool
  | .pointer (some ⟨_, _, none⟩), .pointer none | .pointer none, .pointer (some ⟨_, _, none⟩) => true
  | _, _ => false
def nilS : Value → Value → Bool
  | .slice (some ⟨_, _, none⟩) _ _, .slice none 0 0 | .slice none 0 0, .slice (some ⟨_, _, none⟩) _ _ => true
  | _, _ => false
def nilM : Value → Value → Bool
  | .map (some _), .map none | .map none, .map (some _) => true
  | _, _ => false
def nilF : Value → Value → Bool
  | .func _ _ _, .nilFunc | .nilFunc, .func _ _ _ => true
  | _, _ => false
def notNilI : Value → Bool
  | .nilIface => false
  | _ => true
/-- An operation of two plain values. -/
def binq (P : Program) (op : BinOp) (t : TypeId) (x y : Value) : Option Value :=
  if plain x && plain y && notNilI x then quietP P (do eqGuard op t (.tmp 0) (.tmp 0) x y; binOp op t x y) else none
/-- An operation of two values that may be nil. -/
def binn (P : Program) (nf : Value → Value → Bool) (op : BinOp) (t : TypeId) (x y : Value) : Option Value :=
  if nf x y then
    match op with
    | .eql => some (.bool false)
    | .neq => some (.bool true)
    | _ => none
  else binq P op t x y
def pBin (P : Program) (op : BinOp) (t : TypeId) (x y : Value) : Option Value :=
  match P.underlying t with
  | some (.pointer _) => binn P nilP op t x y
  | some (.slice _) => binn P nilS op t x y
  | some (.map _ _) => binn P nilM op t x y
  | some (.func _ _ _) => binn P nilF op t x y
  | _ => binq P op t x y
def pUn (P : Program) (op : UnOp) (x : Value) : Option Value := if plain x then quietP P (Op.unary op x) else none
def cvI (k : IntKind) : Value → Option Value
  | .int _ n => some (.int k (k.wrap n))
  | _ => none
def pConv (P : Program) (src dst : TypeId) (x : Value) : Option Value :=
  match P.underlying src, P.underlying dst with
  | some (.int _), some (.int k) => cvI k x
  | _, _ => if plain x then quietP P (convert src dst x) else none
def pMM (P : Program) (isMax : Bool) (ts : Array TypeId) (t : TypeId) (xs : List Value) : Option Value :=
  if xs.all plain then quietP P (if isMax then Builtin.max_ ts t xs.toArray else Builtin.min_ ts t xs.toArray) else none

def pExtract (i : Nat) : Value → Option Value
  | .tuple vs => vs[i]?
  | _ => none
def pPick (a b : Option Value) : Value → Option Value
  | .bool c => if c then a else b
  | _ => none
def pNilCheck : Value → Option Value
  | .pointer none | .nilIface | .nilFunc => none
  | .func (.method _) _ _ => none
  | v => some v

abbrev Out := Value × S
abbrev Oracle := FuncId → List Value → List AObj → Option Out
abbrev K1 := Value → S → Option Out
abbrev KF := Fr → S → Option Out

def opnd (fr : Fr) : Operand → Option Value
  | .tmp t => lk t fr
  | .const v => if plain v then some v else none
  | .func f => some (.func (.func f) #[] #[])
  | .global _ => none

def opnds (fr : Fr) : List Operand → Option (List Value)
  | [] => some []
  | x :: r => (opnd fr x).bind fun v => (opnds fr r).bind fun vs => some (v :: vs)
def opndP (fr : Fr) : List (Nat × Operand) → Option (List (Nat × Value))
  | [] => some []
  | (i, x) :: r => (opnd fr x).bind fun v => (opndP fr r).bind fun vs => some ((i, v) :: vs)
def opndO (fr : Fr) : Option Operand → Option (Option Value)
  | none => some none
  | some x => (opnd fr x).map some

def mkFn (fn : Fn) (a b : List Value) : Option Value := if a.all simple0 && b.all simple0 then some (.func fn a.toArray b.toArray) else none
/-- A function is called. -/
def callF (C : Oracle) (k : FuncId) (args : List Value) (s : S) : Option Out := (C k args s.σ).map fun r => (r.1, ⟨r.2.σ, s.ev ++ r.2.ev⟩)
/-- A function value is called. -/
def callV (C : Oracle) (f : Value) (args : List Value) (s : S) : Option Out :=
  match f with
  | .func (.func k) first captured => callF C k (first.toList ++ args ++ captured.toList) s
  | _ => none

def evalOp (P : Program) (C : Oracle) (h : Nat) (o : Oper) (fr : Fr) (s : S) (k : K1) : Option Out :=
  match o.op with
  | .move x | .assign x => (opnd fr x).bind fun v => k v s
  | .pick c a b => (opnd fr c).bind fun c => (pPick (opnd fr a) (opnd fr b) c).bind fun v => k v s
  | .alloc t => (zeroT P t).bind fun z => (boxc s z.cells.toList).bind fun r => k r.1 r.2
  | .box _ x => (opnd fr x).bind fun v => (boxc s v.cells.toList).bind fun r => k r.1 r.2
  | .build t parts => (opndP fr parts.toList).bind fun ps => (pBuild P t ps).bind fun v => k v s
  | .buildSlice t len parts => (opndP fr parts.toList).bind fun ps => (pBuildSlice P t len ps s).bind fun r => k r.1 r.2
  | .load t a => (opnd fr a).bind fun p => (pLoad P t s p).bind fun v => k v s
  | .store t a x => (opnd fr a).bind fun p => (opnd fr x).bind fun v => (pStore P h t s p v).bind fun s => k undef s
  | .nilCheck x => (opnd fr x).bind fun v => (pNilCheck v).bind fun v => k v s
  | .binOp op t x y _ => (opnd fr x).bind fun a => (opnd fr y).bind fun b => (pBin P op t a b).bind fun v => k v s
  | .unOp op _ x => (opnd fr x).bind fun a => (pUn P op a).bind fun v => k v s
  | .convert src dst x => (opnd fr x).bind fun a => (pConv P src dst a).bind fun v => k v s
  | .makeFunc fn first captured => (opnds fr first.toList).bind fun a => (opnds fr captured.toList).bind fun b => (mkFn fn a b).bind fun v => k v s
  | .makeSlice t l c => (opnd fr l).bind fun l => (opnd fr c).bind fun c => (pMakeSlice P t l c s).bind fun r => k r.1 r.2
  | .slice t x lo hi mx => (opnd fr x).bind fun x => (opndO fr lo).bind fun lo => (opndO fr hi).bind fun hi => (opndO fr mx).bind fun mx => (pSlice P t s x lo hi mx).bind fun v => k v s
  | .fieldAddr t x f => (opnd fr x).bind fun p => (pFieldAddr P t f p).bind fun v => k v s
  | .field t x f => (opnd fr x).bind fun a => (pField P t f a).bind fun v => k v s
  | .indexAddr t x i => (opnd fr x).bind fun x => (opnd fr i).bind fun i => (pIndexAddr P t x i).bind fun v => k v s
  | .index t x i => (opnd fr x).bind fun x => (opnd fr i).bind fun i => (pIndex P t x i).bind fun v => k v s
  | .extract x i => (opnd fr x).bind fun x => (pExtract i x).bind fun v => k v s
  | .call c =>
    (opnds fr c.args.toList).bind fun args =>
      match c.callee with
      | .value f => (opnd fr f).bind fun f => (callV C f args s).bind fun r => k r.1 r.2
      | .builtin .len => (match args with | [x] => pLen P c.argTypes x | _ => none).bind fun v => k v s
      | .builtin .append => (match args with | [x, y] => pAppend P c.argTypes x y s | _ => none).bind fun r => k r.1 r.2
      | .builtin .copy => (match args with | [x, y] => pCopy P h c.argTypes x y s | _ => none).bind fun r => k r.1 r.2
      | .builtin .min => (pMM P false c.argTypes o.type args).bind fun v => k v s
      | .builtin .max => (pMM P true c.argTypes o.type args).bind fun v => k v s
      | _ => none
  | _ => none

def gd (want : Bool) : Value → Bool
  | .bool b => b == want
  | _ => false
/-- Is an operation to be carried out? -/
def wants (ops : List Oper) (o : Oper) (fr : Fr) : Option Bool :=
  match o.guard with
  | none => some true
  | some (j, want) =>
    match (ops[j]?).bind (·.dst) with
    | some t => (lk t fr).map (gd want)
    | none => none

def putF (fr : Fr) (dst : Option Nat) (v : Value) : Fr :=
  match dst with
  | some d => (d, v) :: fr
  | none => fr

def dstOk (nt : Nat) : Option Nat → Bool
  | some d => decide (d < nt)
  | none => true

def evalOps (P : Program) (C : Oracle) (h nt : Nat) (all : List Oper) : List Oper → Fr → S → KF → Option Out
  | [], fr, s, k => k fr s
  | o :: r, fr, s, k =>
    if dstOk nt o.dst then
      match o.guard with
      | none => evalOp P C h o fr s fun v s => evalOps P C h nt all r (putF fr o.dst v) s k
      | some _ => (wants all o fr).bind fun g =>
          (if g then evalOp P C h o fr s (fun v s => some (v, s)) else some (undef, s)).bind fun x => evalOps P C h nt all r (putF fr o.dst x.1) x.2 k
    else none

/-! ### Regions that leave their order open: carried out in one order, under conditions by which every order comes to the same -/

inductive OpClass where
  | pure | load | maker | spine
  deriving DecidableEq

def classOf : Op → OpClass
  | .move _ | .assign _ | .pick .. | .binOp .. | .unOp .. | .convert .. | .extract .. | .nilCheck _ | .fieldAddr .. | .indexAddr .. | .build .. | .makeFunc .. | .field .. | .index .. => .pure
  | .load .. | .slice .. => .load
  | .alloc _ | .box .. | .buildSlice .. | .makeSlice .. => .maker
  | .call c => match c.callee with
    | .builtin .len | .builtin .min | .builtin .max => .pure
    | _ => .spine
  | _ => .spine

def directs (o : Oper) : List Nat := o.after.toList.filterMap fun e => if Region.binds .any e then some e.on else none

/-- For each operation those that come before it in whatever order. -/
def ancs (ops : List Oper) : List (List Nat) :=
  ops.foldl (fun acc o => acc ++ [(directs o ++ (directs o).flatMap fun e => acc.getD e []).eraseDups]) []

/-- The slots that an operation looks at. -/
def tmpsOf (o : Oper) : List Nat := o.op.operands.toList.filterMap fun | .tmp t => some t | _ => none
def readsOf (ops : List Oper) (o : Oper) : List Nat :=
  tmpsOf o ++ (match o.guard with | some (j, _) => ((ops[j]?).bind (·.dst)).toList | none => [])

def isSpine (o : Oper) : Bool := classOf o.op == .spine
def isLm (o : Oper) : Bool := classOf o.op == .load || classOf o.op == .maker

/-- The loads and the makers that may come before or behind a spine operation. -/
def floats (ops : List Oper) (anc : List (List Nat)) (c : List Nat) (j : Nat) : List Nat :=
  c.filter fun i => ((ops[i]?).map isLm).getD false && !(anc.getD j []).contains i

/-- The order keeps what comes before what; and what comes behind a spine operation waits for it. -/
def ordOk (ops : List Oper) (anc : List (List Nat)) : List Nat → List Nat → Bool
  | _, [] => true
  | c, i :: r => decide (i < ops.length) && (anc.getD i []).all (fun k => c.contains k) && !c.contains i && !r.contains i &&
      (!((ops[i]?).map isSpine).getD false || r.all fun j => (anc.getD j []).contains i) && ordOk ops anc (c ++ [i]) r

def ancOk (anc : List (List Nat)) (i : Nat) (o : Oper) : Bool :=
  (directs o).all (fun k => (anc.getD i []).contains k) &&
  (anc.getD i []).all fun k => (directs o).contains k || (directs o).any fun e => (anc.getD e []).contains k

def slotOk (ops : List Oper) (anc : List (List Nat)) (i : Nat) (oi : Oper) : Bool :=
  match oi.dst with
  | none => true
  | some t => (!(readsOf ops oi).contains t || !isLm oi) && (List.range ops.length).all fun j => j == i || match ops[j]? with
    | some oj => oj.dst != some t && (!(readsOf ops oj).contains t || (anc.getD j []).contains i || ((anc.getD i []).contains j && !isLm oj))
    | none => true

/-- What is asked of a region. 'od': the order. -/
def drawOk (ops : List Oper) (anc : List (List Nat)) (od : List Nat) : Bool :=
  ordOk ops anc [] od && (List.range ops.length).all fun i => od.contains i && match ops[i]? with
    | some o => ancOk anc i o && slotOk ops anc i o
    | none => true

def blockOf : Value → Option Nat
  | .pointer (some a) => some a.block
  | .slice (some a) _ _ => some a.block
  | _ => none

/-- What a load looks at. -/
def loadArg : Op → Option Operand
  | .load _ a => some a
  | .slice _ x _ _ _ => some x
  | _ => none

/-- Are two values the same? (Of values of few kinds.) -/
def eqv : Value → Value → Bool
  | .bool a, .bool b => a == b
  | .int k a, .int l b => decide (k = l) && decide (a = b)
  | .string a, .string b => decide (a = b)
  | .pointer none, .pointer none => true
  | .pointer (some ⟨b, o, none⟩), .pointer (some ⟨b', o', none⟩) => b == b' && o == o'
  | .slice none n c, .slice none n' c' => n == n' && c == c'
  | .slice (some ⟨b, o, none⟩) n c, .slice (some ⟨b', o', none⟩) n' c' => b == b' && o == o' && n == n' && c == c'
  | .map none, .map none => true
  | .map (some m), .map (some m') => m == m'
  | .nilFunc, .nilFunc => true
  | .nilIface, .nilIface => true
  | _, _ => false
def eqvL : List Value → List Value → Bool
  | [], [] => true
  | x :: r, y :: q => eqv x y && eqvL r q
  | _, _ => false
def sameRow (s s' : S) (b : Nat) : Bool :=
  match s.σ[b]?, s'.σ[b]? with
  | some (.arr r _ _), some (.arr r' _ _) => eqvL r r'
  | _, _ => false
def sameObj (s s' : S) (b : Nat) : Bool :=
  match s.σ[b]?, s'.σ[b]? with
  | some (.arr r lo op), some (.arr r' lo' op') => eqvL r r' && lo == lo' && op == op'
  | _, _ => false
/-- Has what a load looks at stayed? -/
def sameL (s s' : S) (v : Value) : Bool := match blockOf v with | some b => sameRow s s' b | none => true
/-- Has what was made stayed? -/
def sameM (s s' : S) (v : Value) : Bool := match blockOf v with | some b => sameObj s s' b | none => true

/-- May what floats about an operation come on either side of it? -/
def floatOk (ops : List Oper) (fr : Fr) (s s' : S) : List Nat → Bool
  | [] => true
  | i :: r =>
    (match ops[i]? with
    | some o => match loadArg o.op with
      | some a => (match opnd fr a with | some v => sameL s s' v | none => false)
      | none => (match o.dst with | some t => (match lk t fr with | some v => sameM s s' v | none => false) | none => false)
    | none => false) && floatOk ops fr s s' r

def onB (b : Bool) (x : Option Out) : Option Out := match b with | true => x | false => none

def evalDraw (P : Program) (C : Oracle) (h nt : Nat) (ops : List Oper) (anc : List (List Nat)) : List Nat → List Nat → Fr → S → KF → Option Out
  | _, [], fr, s, k => k fr s
  | c, i :: r, fr, s, k =>
    match ops[i]? with
    | none => none
    | some o =>
      if dstOk nt o.dst then
        match o.guard with
        | none => evalOp P C h o fr s fun v s' => onB (!isSpine o || floatOk ops fr s s' (floats ops anc c i)) (evalDraw P C h nt ops anc (c ++ [i]) r (putF fr o.dst v) s' k)
        | some _ => (wants ops o fr).bind fun g =>
            (if g then evalOp P C h o fr s (fun v s => some (v, s)) else some (undef, s)).bind fun x => onB (!isSpine o || floatOk ops fr s x.2 (floats ops anc c i)) (evalDraw P C h nt ops anc (c ++ [i]) r (putF fr o.dst x.1) x.2 k)
      else none

def evalDraw0 (P : Program) (C : Oracle) (h nt : Nat) (od : List Nat) (ops : List Oper) (fr : Fr) (s : S) (k : KF) : Option Out :=
  onB (drawOk ops (ancs ops) od) (evalDraw P C h nt ops (ancs ops) [] od fr s k)

inductive Ctl where
  | norm | ret | exit (id : Nat)

abbrev KC := Ctl → Fr → S → Option Out
abbrev Iter := (KF → KF) → KF

def firstReg : Code → Nat
  | .region id _ _ => id
  | .seq a _ => firstReg a
  | .cond _ a _ => firstReg a
  | .block _ a => firstReg a
  | .loop a => firstReg a
  | .scope a => firstReg a
  | _ => 0

def ifV (v : Value) (a b : Option Out) : Option Out := match v with
  | .bool t => if t then a else b
  | _ => none
/-- Behind a code comes another one. -/
def kSeq (b : KF) (k : KC) : KC := fun c fr s => match c with
  | .norm => b fr s
  | .ret => k .ret fr s
  | .exit i => k (.exit i) fr s
def kBlock (id : Nat) (k : KC) : KC := fun c fr s => match c with
  | .norm => k .norm fr s
  | .ret => k .ret fr s
  | .exit i => if i = id then k .norm fr s else k (.exit i) fr s
/-- Behind a round comes the next one; what is left of the slots: 'l', and behind the loop 'lo'. -/
def kLoop (l lo : List Nat) (self : KF) (k : KC) : KC := fun c fr s => match c with
  | .norm => self (kill l fr) s
  | .ret => k .ret (kill lo fr) s
  | .exit i => k (.exit i) (kill lo fr) s

def exec (P : Program) (C : Oracle) (I : Iter) (L : Nat → List Nat) (h nt : Nat) : Code → Fr → S → KC → Option Out
  | .skip, fr, s, k => k .norm fr s
  | .label _, fr, s, k => k .norm fr s
  | .region id ops draw, fr, s, k => if draw then evalDraw0 P C h nt (L (20000 + id)) ops.toList fr s (k .norm) else evalOps P C h nt ops.toList ops.toList fr s (k .norm)
  | .seq a b, fr, s, k => exec P C I L h nt a fr s (kSeq (fun fr s => exec P C I L h nt b fr s k) k)
  | .cond c a b, fr, s, k => (opnd fr c).bind fun v => ifV v (exec P C I L h nt a fr s k) (exec P C I L h nt b fr s k)
  | .block id a, fr, s, k => exec P C I L h nt a fr s (kBlock id k)
  | .loop a, fr, s, k => I (fun self fr s => exec P C I L h nt a fr s (kLoop (L (firstReg a)) (L (10000 + firstReg a)) self k)) (kill (L (firstReg a)) fr) s
  | .exit id, fr, s, k => k (.exit id) fr s
  | .ret, fr, s, k => k .ret fr s
  | _, _, _, _ => none

/-- A part of a code, by its path. -/
def at_ : List Nat → Code → Code
  | 0 :: p, .seq a _ => at_ p a
  | 1 :: p, .seq _ b => at_ p b
  | 0 :: p, .cond _ a _ => at_ p a
  | 1 :: p, .cond _ _ b => at_ p b
  | 0 :: p, .block _ a => at_ p a
  | 0 :: p, .loop a => at_ p a
  | 0 :: p, .scope a => at_ p a
  | _, c => c

def results1 (P : Program) (fr : Fr) (s : S) : ResultVar → Option Value
  | .tmp t => lk t fr
  | .cell a t => (lk a fr).bind fun p => pLoad P t s p
def resultsL (P : Program) (fr : Fr) (s : S) : List ResultVar → Option (List Value)
  | [] => some []
  | r :: rs => (results1 P fr s r).bind fun v => (resultsL P fr s rs).bind fun vs => some (v :: vs)
def notTuple : Value → Bool
  | .tuple _ => false
  | _ => true
def retL : List Value → Option Value
  | [v] => some v
  | vs => if vs.all notTuple then some (.tuple vs.toArray) else none
def retV (P : Program) (rs : List ResultVar) (fr : Fr) (s : S) : Option Value := (resultsL P fr s rs).bind retL

/-! ### What is left behind a call -/

def dedup : List Nat → List Nat
  | [] => []
  | x :: r => x :: (dedup r).filter (· ≠ x)
def ren1 (g : Nat → Nat) : Value → Value
  | .pointer (some a) => .pointer (some { a with block := g a.block })
  | .slice (some a) n c => .slice (some { a with block := g a.block }) n c
  | .map (some m) => .map (some (g m))
  | v => v
def ren2 (g : Nat → Nat) : Value → Value
  | .agg cs => .agg (cs.map (ren1 g))
  | v => ren1 g v
def renV (g : Nat → Nat) : Value → Value
  | .tuple vs => .tuple (vs.map (ren2 g))
  | v => ren2 g v
/-- May an object be kept alone (nothing in it leads on)? -/
def lone : AObj → Bool
  | .arr cs _ _ => cs.all plain1
  | _ => false
def place (l : List Nat) (h : Nat) (b : Nat) : Nat := if b < h then b else h + l.idxOf b
def noFn : Value → Bool
  | .func _ _ _ => false
  | .agg cs => cs.all fun | .func _ _ _ => false | _ => true
  | .tuple vs => vs.all fun | .func _ _ _ => false | .agg cs => cs.all (fun | .func _ _ _ => false | _ => true) | _ => true
  | _ => true
/-- What is left behind a call: all of it. -/
def gc (h : Nat) (v : Value) (s : S) : Out := (v, ⟨s.σ, s.ev.filter fun b => decide (b < h)⟩)

def enterFr (args : List Value) : Fr := args.zipIdx.map fun (v, i) => (i, v)

/-- The end of a body. -/
def kRet (P : Program) (rs : List ResultVar) (h : Nat) : KC := fun c fr s => match c with
  | .exit _ => none
  | .norm => (retV P rs fr s).bind fun v => some (gc h v s)
  | .ret => (retV P rs fr s).bind fun v => some (gc h v s)

def bodyOf (P : Program) (C : Oracle) (I : Iter) (H : FuncId → Nat → List Nat) (f : FuncId) (args : List Value) (σ : List AObj) : Option Out :=
  match P.funcs[f]? with
  | some fn =>
    match fn.body with
    | some c =>
      if args.length ≤ fn.ntmps then
        exec P C I (H f) σ.length fn.ntmps c (enterFr args) ⟨σ, []⟩ (kRet P fn.results.toList σ.length)
      else none
    | none => none
  | none => none

def iterN : Nat → Iter
  | 0, _ => fun _ _ => none
  | n + 1, step => step (iterN n step)

def callN (P : Program) (X : FuncId → Option (List Value → List AObj → Option Out)) (H : FuncId → Nat → List Nat) : Nat → Oracle
  | 0 => fun _ _ _ => none
  | n + 1 => fun f args σ => match X f with
    | some g => g args σ
    | none => bodyOf P (callN P X H n) (iterN n) H f args σ

end Go.Ab
