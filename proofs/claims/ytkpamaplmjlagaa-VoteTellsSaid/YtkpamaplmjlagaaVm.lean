/-
  The machine of values: slices that nobody writes any more are values; what is left of the store are boxes, and what is written in place.
-/
import Derived.Test.YtkpamaplmjlagaaSim4
import Derived.Test.YtkpamaplmjlagaaLim
namespace Go.Vm
open Go Go.Ab

/-- 'p': plain; 'ptr', 'rs': into the store; 'sl': a slice as a value (f: 0 closed; 1 its capacity is its length, and nobody appends to what it is part of; 3 its capacity is its length; 2 open: it may be appended to); 'pt': a pointer at a place that nobody writes. -/
inductive VV where
  | p (v : Value)
  | ptr (b o : Nat)
  | rs (ag : Bool) (b o n k f : Nat)
  | sl (f k : Nat) (es : List VV)
  | pt (v : VV)
  | agg (cs : List VV)
  | fn (f : Fn) (a b : List VV)
  | tup (vs : List VV)
  deriving Inhabited

abbrev VI (k : IntKind) (n : Int) : VV := .p (.int k n)
abbrev VB (b : Bool) : VV := .p (.bool b)
abbrev undefV : VV := .tup []
abbrev nilsV : VV := .p (.slice none 0 0)

inductive VObj where
  | arr (cells : List VV) (lo : Nat) (op : Bool)
  deriving Inhabited

structure VS where
  σ : List VObj
  ev : List Nat
  wr : List Nat

abbrev VFr := List (Nat × VV)
abbrev VOut := VV × VS
abbrev VOracle := FuncId → List VV → List VObj → Option VOut
abbrev VKF := VFr → VS → Option VOut

def cellsV : VV → List VV
  | .agg cs => cs
  | v => [v]
/-- May it lie in one cell? -/
def isC : VV → Bool
  | .agg _ | .tup _ => false
  | _ => true
/-- May a load of it be repeated? -/
def simpleV : VV → Bool
  | .agg _ | .tup _ | .fn _ _ _ => false
  | _ => true
def cls : VV → VV
  | .sl 2 k es => .sl 0 k es
  | v => v
mutual
/-- Is all that it leads to such? -/
def lowP (q : Nat → Bool) : VV → Bool
  | .p _ => true
  | .ptr b _ => q b
  | .rs _ b _ _ _ _ => q b
  | .sl _ _ es => lowPL q es
  | .pt v => lowP q v
  | .agg cs => lowPL q cs
  | .fn _ a b => lowPL q a && lowPL q b
  | .tup vs => lowPL q vs
def lowPL (q : Nat → Bool) : List VV → Bool
  | [] => true
  | x :: r => lowP q x && lowPL q r
end
abbrev low (j : Nat) (v : VV) : Bool := lowP (fun b => decide (b < j)) v
abbrev lowL (j : Nat) (l : List VV) : Bool := lowPL (fun b => decide (b < j)) l

def toVL : List VV → Option (List Value)
  | [] => some []
  | .p v :: r => (toVL r).map (v :: ·)
  | _ :: _ => none
/-- A plain value. -/
def toV : VV → Option Value
  | .p v => some v
  | .agg cs => (toVL cs).map fun l => .agg l.toArray
  | _ => none
def ofV : Value → VV
  | .agg cs => .agg (cs.toList.map .p)
  | v => .p v

def lkV (t : Nat) : VFr → Option VV
  | [] => none
  | (u, v) :: r => if u = t then some v else lkV t r
def killV (l : List Nat) (fr : VFr) : VFr := l.filterMap fun t => (lkV t fr).map (t, ·)
def putV (fr : VFr) (dst : Option Nat) (v : VV) : VFr :=
  match dst with
  | some d => (d, v) :: fr
  | none => fr

def rowV (s : VS) (b : Nat) : Option (List VV) :=
  match s.σ[b]? with
  | some (.arr c _ _) => some c
  | _ => none

/-! ### The store -/
def ld1V (s : VS) : VV → Option VV
  | .ptr b o => (rowV s b).bind fun c => (c[o]?).map cls
  | .pt v => if isC v then some v else none
  | _ => none
def ldnV (n : Nat) (s : VS) : VV → Option VV
  | .ptr b o => (rowV s b).bind fun c => if o + n ≤ c.length then some (.agg (((c.drop o).take n).map cls)) else none
  | .pt (.agg cs) => if cs.length = n then some (.agg cs) else none
  | _ => none
def setV (c : List VV) (o : Nat) : List VV → List VV
  | [] => c
  | v :: vs => setV (c.set o v) (o + 1) vs
/-- A cell's right to be appended to is taken. -/
def ldtV (s : VS) : VV → Option (VV × VS)
  | .ptr b o =>
    match s.σ[b]? with
    | some (.arr c lo true) => (c[o]?).map fun v => (v, ⟨s.σ.set b (.arr (c.set o (cls v)) lo true), s.ev, s.wr⟩)
    | _ => none
  | _ => none
def evU (h b : Nat) (vs : List VV) (ev : List Nat) : List Nat := if h ≤ b || lowL b vs then ev else ev ++ [b]
def wrU (h b : Nat) (wr : List Nat) : List Nat := if h ≤ b then wr else wr ++ [b]
def stnV (h : Nat) (s : VS) (vs : List VV) : VV → Option VS
  | .ptr b o =>
    match s.σ[b]? with
    | some (.arr c lo true) =>
      if lo ≤ o ∧ o + vs.length ≤ c.length ∧ vs.all isC then some ⟨s.σ.set b (.arr (setV c o vs) lo true), evU h b vs s.ev, wrU h b s.wr⟩ else none
    | _ => none
  | _ => none
def stvV (n h : Nat) (s : VS) (p v : VV) : Option VS := if (cellsV v).length = n then stnV h s (cellsV v) p else none
def boxV (s : VS) (cells : List VV) : Option (VV × VS) :=
  if cells.all isC then some (.ptr s.σ.length 0, ⟨s.σ ++ [.arr cells 0 true], s.ev, s.wr⟩) else none
/-- The blocks that a store writes. -/
def wsOf : VV → List Nat
  | .ptr b _ => [b]
  | .rs _ b _ _ _ _ => [b]
  | _ => []

/-! ### Places -/
def fldC (ag : Bool) (n off : Nat) (cs : List VV) : Option VV :=
  if ag then (if off + n ≤ cs.length then some (.agg ((cs.drop off).take n)) else none) else cs[off]?
def fldA (ag : Bool) (n off : Nat) : VV → Option VV
  | .ptr b o => some (.ptr b (o + off))
  | .pt (.agg cs) => if cs.all isC then (fldC ag n off cs).map .pt else none
  | _ => none
def fldF (ag : Bool) (n off : Nat) : VV → Option VV
  | .agg cs => fldC ag n off cs
  | _ => none
def idxA (ag : Bool) (len n : Nat) (x : VV) : VV → Option VV
  | .p (.int _ i) => if 0 ≤ i ∧ i < (len : Int) then fldA ag n (i.toNat * n) x else none
  | _ => none
def idxF (ag : Bool) (len n : Nat) (x : VV) : VV → Option VV
  | .p (.int _ i) => if 0 ≤ i ∧ i < (len : Int) then fldF ag n (i.toNat * n) x else none
  | _ => none
def idxS (size : Nat) (x : VV) : VV → Option VV
  | .p (.int _ i) =>
    match x with
    | .rs _ b o n k _ => if k = size ∧ 0 ≤ i ∧ i < (n : Int) then some (.ptr b (o + i.toNat * size)) else none
    | .sl _ k es => if k = size ∧ 0 ≤ i ∧ i < (es.length : Int) then (es[i.toNat]?).map .pt else none
    | _ => none
  | _ => none

/-! ### Slices -/
def bndV (d : Nat) : Option VV → Option Nat
  | none => some d
  | some (.p (.int _ i)) => if 0 ≤ i then some i.toNat else none
  | some _ => none
def chunk (ag : Bool) (k : Nat) : Nat → List VV → List VV
  | 0, _ => []
  | n + 1, cs => (if ag then .agg (cs.take k) else cs.headD undefV) :: chunk ag k n (cs.drop k)
def slArr (ag : Bool) (n size : Nat) (s : VS) (lo hi mx : Option VV) : VV → Option VV
  | .ptr b o =>
    (rowV s b).bind fun c => (bndV 0 lo).bind fun l => (bndV n hi).bind fun h => (bndV n mx).bind fun m =>
      if l ≤ h ∧ h ≤ m ∧ m ≤ n ∧ o + n * size ≤ c.length ∧ (hi.isNone → mx.isNone) ∧ (ag = true ∨ size = 1) then some (.rs ag b (o + l * size) (h - l) size (if h = m then 1 else 0)) else none
  | _ => none
/-- The array is written no more: a value. -/
def slArrF (ag : Bool) (n size : Nat) (s : VS) (lo hi : Option VV) : VV → Option (VV × VS)
  | .ptr b o =>
    match s.σ[b]? with
    | some (.arr c l0 op) => (bndV 0 lo).bind fun l => (bndV n hi).bind fun h =>
      if l ≤ h ∧ h ≤ n ∧ o + n * size ≤ c.length ∧ size ≠ 0 ∧ c.all simpleV ∧ (ag = true ∨ size = 1) then
        some (.sl (if h = n then 1 else 0) size (chunk ag size (h - l) ((c.drop (o + l * size)).map cls)), ⟨s.σ.set b (.arr (c.map cls) l0 false), s.ev, s.wr⟩) else none
    | _ => none
  | _ => none
def slSl (size : Nat) (lo hi mx : Option VV) : VV → Option VV
  | .rs ag b o n k f =>
    if k = size then
      (bndV 0 lo).bind fun l => (bndV n hi).bind fun h =>
        match mx with
        | some m => (bndV n (some m)).bind fun m => if l ≤ h ∧ h ≤ m ∧ m ≤ n ∧ hi.isSome then some (.rs ag b (o + l * size) (h - l) size (if h = m then 1 else 0)) else none
        | none => if l ≤ h ∧ h ≤ n then some (.rs ag b (o + l * size) (h - l) size (if f = 1 ∧ h = n then 1 else 0)) else none
    else none
  | .sl f k es =>
    if k = size then
      (bndV 0 lo).bind fun l => (bndV es.length hi).bind fun h =>
        match mx with
        | some m => (bndV es.length (some m)).bind fun m => if l ≤ h ∧ h ≤ m ∧ m ≤ es.length ∧ hi.isSome then some (.sl (if h = m then (if f = 1 then 1 else 3) else 0) size ((es.drop l).take (h - l))) else none
        | none => if l ≤ h ∧ h ≤ es.length then some (.sl (if h = es.length then (if f = 1 then 1 else if f = 3 then 3 else 0) else 0) size ((es.drop l).take (h - l))) else none
    else none
  | .p (.slice none 0 0) =>
    (bndV 0 lo).bind fun l => (bndV 0 hi).bind fun h => (bndV 0 mx).bind fun m => if l = 0 ∧ h = 0 ∧ m = 0 ∧ (hi.isNone → mx.isNone) then some nilsV else none
  | _ => none

def lenV : VV → Option Nat
  | .rs _ _ _ n _ _ => some n
  | .sl _ _ es => some es.length
  | .p (.slice none 0 0) => some 0
  | .p (.string x) => some x.size
  | _ => none
/-- The elements of a slice, or a string. -/
def elems (ag : Bool) (s : VS) (k : Nat) : VV → Option (List VV)
  | .p (.slice none 0 0) => some []
  | .rs _ b o n k' _ => if k' = k then (rowV s b).bind fun r => if o + n * k ≤ r.length ∧ r.all isC then some (chunk ag k n ((r.drop o).map cls)) else none else none
  | .sl _ k' es => if k' = k then some es else none
  | .p (.string x) => if k = 1 ∧ ag = false then some (x.data.toList.map fun b => VI .u8 b.toNat) else none
  | _ => none
def flat (es : List VV) : List VV := es.flatMap cellsV

/-- 'alt': what is made anew may be written. -/
def appV (alt ag : Bool) (h k by_ : Nat) (x y : VV) (s : VS) : Option (VV × VS) :=
  if (ag = true ∨ k = 1) ∧ k ≠ 0 then (elems ag s k y).bind fun new =>
    match x with
    | .p (.slice none 0 0) =>
      if new.length = 0 then some (nilsV, s)
      else if new.length * by_ ≤ 2 ^ 46 ∧ new.length ≤ 2 ^ 46 ∧ (flat new).all simpleV ∧ new.all (fun e => decide ((cellsV e).length = k)) then
        (if alt then some (.rs ag s.σ.length 0 new.length k 0, ⟨s.σ ++ [.arr (flat new) 0 true], s.ev, s.wr⟩) else some (.sl 2 k new, s)) else none
    | .sl f k' es =>
      if k' = k ∧ f ≠ 0 ∧ (es.length + new.length) * by_ ≤ 2 ^ 46 ∧ es.length + new.length ≤ 2 ^ 46 then
        (if new.length = 0 then some (x, s)
        else if (flat es).all simpleV ∧ (flat new).all simpleV ∧ new.all (fun e => decide ((cellsV e).length = k)) then
          (if alt then (if f ≠ 2 then some (.rs ag s.σ.length 0 (es.length + new.length) k 0, ⟨s.σ ++ [.arr (flat (es ++ new)) 0 true], s.ev, s.wr⟩) else none)
          else some (.sl 2 k (es ++ new), s))
        else none)
      else none
    | .rs ag' b o n k' f =>
      if k' = k then
        match s.σ[b]? with
        | some (.arr r lo op) =>
          if o + n * k ≤ r.length ∧ (n + new.length) * by_ ≤ 2 ^ 46 ∧ n + new.length ≤ 2 ^ 46 ∧ (flat new).all isC ∧ new.all (fun e => decide ((cellsV e).length = k)) then
            if new.length = 0 then some (x, ⟨s.σ, s.ev, wrU h b s.wr⟩)
            else if f = 1 then some (.rs ag' s.σ.length 0 (n + new.length) k 0, ⟨s.σ ++ [.arr (((r.drop o).take (n * k)).map cls ++ flat new) 0 true], s.ev, wrU h b s.wr⟩)
            else if op = true ∧ o + n * k = r.length ∧ lo ≤ o + n * k then
              some (.rs ag' s.σ.length 0 (n + new.length) k 0, ⟨s.σ.set b (.arr r lo false) ++ [.arr (((r.drop o).take (n * k)).map cls ++ flat new) (n * k) true], s.ev, wrU h b s.wr⟩)
            else none
          else none
        | _ => none
      else none
    | _ => none
  else none
def cpyV (ag : Bool) (h k : Nat) (x y : VV) (s : VS) : Option (VV × VS) :=
  if (ag = true ∨ k = 1) ∧ k ≠ 0 then (elems ag s k y).bind fun new =>
    match x with
    | .p (.slice none 0 0) => some (VI .i64 0, s)
    | .rs _ b o n k' _ =>
      if k' = k ∧ new.all (fun e => decide ((cellsV e).length = k)) then
        if min new.length n = 0 then some (VI .i64 0, ⟨s.σ, s.ev, wrU h b s.wr⟩)
        else (stnV h s (flat (new.take (min new.length n))) (.ptr b o)).map fun s' => (VI .i64 (min new.length n : Nat), s')
      else none
    | _ => none
  else none

def fillV (place : Nat → Option (Nat × Nat)) (cells : List VV) : List (Nat × VV) → Option (List VV)
  | [] => some cells
  | (i, v) :: r =>
    match place i with
    | none => none
    | some (off, size) => if (cellsV v).length = size ∧ off + size ≤ cells.length then fillV place (setV cells off (cellsV v)) r else none
def bldV (z : VV) (pl : Nat → Option (Nat × Nat)) (parts : List (Nat × VV)) : Option VV :=
  if parts.all (fun x => (cellsV x.2).all isC) then (fillV pl (cellsV z) parts).map .agg else none
def putEs (es : List VV) : List (Nat × VV) → List VV
  | [] => es
  | (i, v) :: r => putEs (es.set i v) r
/-- A literal: a value, or ('alt') what may be written. -/
def bslV (alt ag : Bool) (n : Nat) (z : VV) (len : Nat) (parts : List (Nat × VV)) (s : VS) : Option (VV × VS) :=
  if len * n ≤ 2 ^ 24 ∧ (cellsV z).length = n ∧ n ≠ 0 ∧ (ag = true ∨ n = 1) ∧ parts.all (fun x => (cellsV x.2).all isC && decide ((cellsV x.2).length = n) && decide (x.1 < len)) then
    (if alt then some (.rs ag s.σ.length 0 len n 1, ⟨s.σ ++ [.arr (flat (putEs (List.replicate len z) parts)) 0 true], s.ev, s.wr⟩)
    else if parts.all (fun x => (cellsV x.2).all simpleV) ∧ (cellsV z).all simpleV then some (.sl 1 n (putEs (List.replicate len z) parts), s) else none)
  else none
def mksV (ag : Bool) (n by_ : Nat) (z len cap : VV) (s : VS) : Option (VV × VS) :=
  match len, cap with
  | .p (.int .i64 l), .p (.int .i64 c) =>
    if 0 ≤ l ∧ l ≤ c ∧ c ≤ 2 ^ 46 ∧ c * by_ ≤ 2 ^ 46 ∧ (cellsV z).length = n ∧ n ≠ 0 ∧ (ag = true ∨ n = 1) ∧ (cellsV z).all isC then
      some (.rs ag s.σ.length 0 l.toNat n (if l = c then 1 else 0), ⟨s.σ ++ [.arr (flat (List.replicate l.toNat z)) 0 true], s.ev, s.wr⟩)
    else none
  | _, _ => none

/-! ### Values -/
def nilPV : VV → VV → Bool
  | .ptr _ _, .p (.pointer none) | .p (.pointer none), .ptr _ _ | .pt _, .p (.pointer none) | .p (.pointer none), .pt _ => true
  | _, _ => false
def nilSV : VV → VV → Bool
  | .rs .., .p (.slice none 0 0) | .p (.slice none 0 0), .rs .. | .sl .., .p (.slice none 0 0) | .p (.slice none 0 0), .sl .. => true
  | _, _ => false
def nilFV : VV → VV → Bool
  | .fn _ _ _, .p .nilFunc | .p .nilFunc, .fn _ _ _ => true
  | _, _ => false
def binqV (P : Program) (op : BinOp) (t : TypeId) (x y : VV) : Option VV := (toV x).bind fun a => (toV y).bind fun b => (binq P op t a b).map ofV
def binnV (P : Program) (nf : VV → VV → Bool) (op : BinOp) (t : TypeId) (x y : VV) : Option VV :=
  if nf x y then
    match op with
    | .eql => some (VB false)
    | .neq => some (VB true)
    | _ => none
  else binqV P op t x y
def pBinV (P : Program) (op : BinOp) (t : TypeId) (x y : VV) : Option VV :=
  match P.underlying t with
  | some (.pointer _) => binnV P nilPV op t x y
  | some (.slice _) => binnV P nilSV op t x y
  | some (.map _ _) => binqV P op t x y
  | some (.func _ _ _) => binnV P nilFV op t x y
  | _ => binqV P op t x y
def pUnV (P : Program) (op : UnOp) (x : VV) : Option VV := (toV x).bind fun a => (pUn P op a).map ofV
def cvIV (k : IntKind) : VV → Option VV
  | .p (.int _ n) => some (VI k (k.wrap n))
  | _ => none
def pConvV (P : Program) (src dst : TypeId) (x : VV) : Option VV :=
  match P.underlying src, P.underlying dst with
  | some (.int _), some (.int k) => cvIV k x
  | _, _ => (toV x).bind fun a => (if plain a then quietP P (convert src dst a) else none).map ofV
def toVs : List VV → Option (List Value)
  | [] => some []
  | x :: r => (toV x).bind fun a => (toVs r).map (a :: ·)
def pMMV (P : Program) (isMax : Bool) (ts : Array TypeId) (t : TypeId) (xs : List VV) : Option VV := (toVs xs).bind fun l => (pMM P isMax ts t l).map ofV
def extV (i : Nat) : VV → Option VV
  | .tup vs => (vs[i]?).map cls
  | _ => none
def pickV (a b : Option VV) : VV → Option VV
  | .p (.bool c) => if c then a else b
  | _ => none
def nilCV : VV → Option VV
  | .p (.pointer none) | .p .nilIface | .p .nilFunc => none
  | .fn (.method _) _ _ => none
  | v => some v
def mkFnV (f : Fn) (a b : List VV) : Option VV := if a.all simpleV && b.all simpleV then some (.fn f a b) else none
def lenSlV : VV → Option VV
  | .rs _ _ _ n _ _ => some (VI .i64 n)
  | .sl _ _ es => some (VI .i64 es.length)
  | .p (.slice none 0 0) => some (VI .i64 0)
  | _ => none
def lenStrV : VV → Option VV
  | .p (.string b) => some (VI .i64 b.size)
  | _ => none
def lenMapV : VV → Option VV
  | .p (.map none) => some (VI .i64 0)
  | _ => none

def zeroVV (P : Program) (t : TypeId) : Option VV := (zeroT P t).map ofV
def loadVV (P : Program) (t : TypeId) (s : VS) (p : VV) : Option VV :=
  (aggT P t).bind fun ag => if ag then (sizeT P t).bind fun n => ldnV n s p else ld1V s p
def storeVV (P : Program) (h : Nat) (t : TypeId) (s : VS) (p v : VV) : Option VS := (sizeT P t).bind fun n => stvV n h s p v
def fieldAddrVV (P : Program) (t : TypeId) (f : Nat) (p : VV) : Option VV :=
  match P.underlying t with
  | some (.struct fs) =>
    match fs[f]? with
    | some fd => if sizeT P fd.type = some 0 then none else (aggT P fd.type).bind fun ag => (sizeT P fd.type).bind fun n => fldA ag n fd.offset p
    | none => none
  | _ => none
def fieldVV (P : Program) (t : TypeId) (f : Nat) (x : VV) : Option VV :=
  match P.underlying t with
  | some (.struct fs) => (fs[f]?).bind fun fd => (aggT P fd.type).bind fun ag => (sizeT P fd.type).bind fun n => fldF ag n fd.offset x
  | _ => none
def indexAddrVV (P : Program) (t : TypeId) (x i : VV) : Option VV :=
  match P.underlying t with
  | some (.array len e) => (aggT P e).bind fun ag => (sizeT P e).bind fun n => idxA ag len n x i
  | some (.slice e) => (sizeT P e).bind fun n => idxS n x i
  | _ => none
def indexVV (P : Program) (t : TypeId) (x i : VV) : Option VV :=
  match P.underlying t with
  | some (.array len e) => (aggT P e).bind fun ag => (sizeT P e).bind fun n => idxF ag len n x i
  | _ => (toV x).bind fun a => (toV i).bind fun j => (if plain a && plain j then quietP P (Instr.index t a j) else none).map ofV
def sliceVV (P : Program) (alt : Bool) (t : TypeId) (s : VS) (x : VV) (lo hi mx : Option VV) : Option (VV × VS) :=
  match P.underlying t with
  | some (.array n e) => (aggT P e).bind fun ag => (sizeT P e).bind fun z => if alt then (if mx.isNone then slArrF ag n z s lo hi x else none) else (slArr ag n z s lo hi mx x).map (·, s)
  | some (.slice e) => (sizeT P e).bind fun z => (slSl z lo hi mx x).map (·, s)
  | some .string => (toV x).bind fun a =>
    match lo.map toV, hi.map toV with
    | none, none => (if plain a && mx.isNone then quietP P (Instr.slice t a none none none) else none).map fun v => (ofV v, s)
    | some (some l), none => (if plain a && plain l && mx.isNone then quietP P (Instr.slice t a (some l) none none) else none).map fun v => (ofV v, s)
    | none, some (some h) => (if plain a && plain h && mx.isNone then quietP P (Instr.slice t a none (some h) none) else none).map fun v => (ofV v, s)
    | some (some l), some (some h) => (if plain a && plain l && plain h && mx.isNone then quietP P (Instr.slice t a (some l) (some h) none) else none).map fun v => (ofV v, s)
    | _, _ => none
  | _ => none
def buildVV (P : Program) (t : TypeId) (parts : List (Nat × VV)) : Option VV :=
  (zeroVV P t).bind fun z =>
    match P.underlying t with
    | some (.struct fs) => (fs.mapM fun f => (sizeT P f.type).map (f.offset, ·)).bind fun places => bldV z (places[·]?) parts
    | some (.array _ e) => (sizeT P e).bind fun n => bldV z (fun i => some (i * n, n)) parts
    | _ => none
def buildSliceVV (P : Program) (alt : Bool) (t : TypeId) (len : Nat) (parts : List (Nat × VV)) (s : VS) : Option (VV × VS) :=
  (elemT P t).bind fun e => (aggT P e).bind fun ag => (sizeT P e).bind fun n => (zeroVV P e).bind fun z => bslV alt ag n z len parts s
def makeSliceVV (P : Program) (t : TypeId) (len cap : VV) (s : VS) : Option (VV × VS) :=
  (elemT P t).bind fun e => (aggT P e).bind fun ag => (sizeT P e).bind fun n => (bytesT P e).bind fun by_ => (zeroVV P e).bind fun z => mksV ag n by_ z len cap s
def appendVV (P : Program) (h : Nat) (alt : Bool) (ts : Array TypeId) (x y : VV) (s : VS) : Option (VV × VS) :=
  match ts[0]?, ts[1]? with
  | some t, some u =>
    match P.underlying u with
    | some (.slice _) | some .string => (elemT P t).bind fun e => (aggT P e).bind fun ag => (sizeT P e).bind fun k => (bytesT P e).bind fun by_ => (zeroT P e).bind fun z => if by_ ≠ 0 ∧ k ≠ 0 ∧ z.cells.size = k then appV alt ag h k by_ x y s else none
    | _ => none
  | _, _ => none
def copyVV (P : Program) (h : Nat) (ts : Array TypeId) (x y : VV) (s : VS) : Option (VV × VS) :=
  match ts[0]? with
  | some t => (elemT P t).bind fun e => (aggT P e).bind fun ag => (sizeT P e).bind fun k => cpyV ag h k x y s
  | none => none
def lenVV (P : Program) (ts : Array TypeId) (x : VV) : Option VV :=
  match ts[0]? with
  | some t =>
    match P.underlying t with
    | some .string => lenStrV x
    | some (.array n _) => some (VI .i64 n)
    | some (.slice _) => lenSlV x
    | some (.map _ _) => lenMapV x
    | _ => none
  | none => none

/-! ### Operands -/
def opndV (os : List Nat) (fr : VFr) : Operand → Option VV
  | .tmp t => (lkV t fr).map fun v => if os.contains t then cls v else v
  | .const v => if plain v then some (ofV v) else none
  | .func f => some (.fn (.func f) [] [])
  | .global _ => none
/-- An operand whose right to be appended to is taken. -/
def takeV (os : List Nat) (fr : VFr) : Operand → Option (VV × VFr)
  | .tmp t => if os.contains t then (lkV t fr).map fun v => (v, (t, cls v) :: fr) else none
  | _ => none
def opndsV (os : List Nat) (fr : VFr) : List Operand → Option (List VV)
  | [] => some []
  | x :: r => (opndV os fr x).bind fun v => (opndsV os fr r).bind fun vs => some (v :: vs)
def opndPV (os : List Nat) (fr : VFr) : List (Nat × Operand) → Option (List (Nat × VV))
  | [] => some []
  | (i, x) :: r => (opndV os fr x).bind fun v => (opndPV os fr r).bind fun vs => some ((i, v) :: vs)
def opndOV (os : List Nat) (fr : VFr) : Option Operand → Option (Option VV)
  | none => some none
  | some x => (opndV os fr x).map some

def callFV (C : VOracle) (h : Nat) (k : FuncId) (args : List VV) (s : VS) : Option (VV × VS × List Nat) :=
  (C k args s.σ).map fun r => (r.1, ⟨r.2.σ, s.ev ++ r.2.ev.filter (fun b => decide (b < h)), s.wr ++ r.2.wr.filter (fun b => decide (b < h))⟩, r.2.wr)
def callVV (C : VOracle) (h : Nat) (f : VV) (args : List VV) (s : VS) : Option (VV × VS × List Nat) :=
  match f with
  | .fn (.func k) first captured => callFV C h k (first ++ args ++ captured) s
  | _ => none
def fin (od : Bool) (v : VV) : VV := if od then v else cls v

/-- How an operation is carried out: 'tk': it takes a right; 'alt': in the other way; 'od': its slot may hold a right. -/
structure Mode where
  tk : Bool
  alt : Bool
  od : Bool
abbrev K1V (α : Type) := VV → VFr → VS → List Nat → Option α

def evalOpV {α : Type} (P : Program) (C : VOracle) (h : Nat) (os : List Nat) (m : Mode) (o : Oper) (fr : VFr) (s : VS) (k : K1V α) : Option α :=
  match o.op with
  | .move x | .assign x => if m.tk then (if m.od then (takeV os fr x).bind fun r => k r.1 r.2 s [] else none) else (opndV os fr x).bind fun v => k v fr s []
  | .pick c a b => (opndV os fr c).bind fun c => (pickV (opndV os fr a) (opndV os fr b) c).bind fun v => k v fr s []
  | .alloc t => (zeroVV P t).bind fun z => (boxV s (cellsV z)).bind fun r => k r.1 fr r.2 []
  | .box _ x => (opndV os fr x).bind fun v => (boxV s (cellsV v)).bind fun r => k r.1 fr r.2 []
  | .build t parts => (opndPV os fr parts.toList).bind fun ps => (buildVV P t ps).bind fun v => k v fr s []
  | .buildSlice t len parts => (opndPV os fr parts.toList).bind fun ps => (buildSliceVV P m.alt t len ps s).bind fun r => k r.1 fr r.2 []
  | .load t a => if m.tk then (if m.od then (opndV os fr a).bind fun p => (if aggT P t = some false then some () else none).bind fun _ => (ldtV s p).bind fun r => k r.1 fr r.2 [] else none) else (opndV os fr a).bind fun p => (loadVV P t s p).bind fun v => k v fr s []
  | .store t a x => if m.tk then (opndV os fr a).bind fun p => (takeV os fr x).bind fun r => (storeVV P h t s p r.1).bind fun s => k undefV r.2 s (wsOf p)
      else (opndV os fr a).bind fun p => (opndV os fr x).bind fun v => (storeVV P h t s p v).bind fun s => k undefV fr s (wsOf p)
  | .nilCheck x => (opndV os fr x).bind fun v => (nilCV v).bind fun v => k v fr s []
  | .binOp op t x y _ => (opndV os fr x).bind fun a => (opndV os fr y).bind fun b => (pBinV P op t a b).bind fun v => k v fr s []
  | .unOp op _ x => (opndV os fr x).bind fun a => (pUnV P op a).bind fun v => k v fr s []
  | .convert src dst x => (opndV os fr x).bind fun a => (pConvV P src dst a).bind fun v => k v fr s []
  | .makeFunc fn first captured => (opndsV os fr first.toList).bind fun a => (opndsV os fr captured.toList).bind fun b => (mkFnV fn a b).bind fun v => k v fr s []
  | .makeSlice t l c => (opndV os fr l).bind fun l => (opndV os fr c).bind fun c => (makeSliceVV P t l c s).bind fun r => k r.1 fr r.2 []
  | .slice t x lo hi mx => (opndV os fr x).bind fun x => (opndOV os fr lo).bind fun lo => (opndOV os fr hi).bind fun hi => (opndOV os fr mx).bind fun mx => (sliceVV P m.alt t s x lo hi mx).bind fun r => k r.1 fr r.2 []
  | .fieldAddr t x f => (opndV os fr x).bind fun p => (fieldAddrVV P t f p).bind fun v => k v fr s []
  | .field t x f => (opndV os fr x).bind fun a => (fieldVV P t f a).bind fun v => k v fr s []
  | .indexAddr t x i => (opndV os fr x).bind fun x => (opndV os fr i).bind fun i => (indexAddrVV P t x i).bind fun v => k v fr s []
  | .index t x i => (opndV os fr x).bind fun x => (opndV os fr i).bind fun i => (indexVV P t x i).bind fun v => k v fr s []
  | .extract x i => (opndV os fr x).bind fun x => (extV i x).bind fun v => k v fr s []
  | .call c =>
    match c.callee with
    | .value f => (opndsV os fr c.args.toList).bind fun args => (opndV os fr f).bind fun f => (callVV C h f args s).bind fun r => k (fin m.od r.1) fr r.2.1 r.2.2
    | .builtin .len => (opndsV os fr c.args.toList).bind fun args => (match args with | [x] => lenVV P c.argTypes x | _ => none).bind fun v => k v fr s []
    | .builtin .append =>
      match c.args.toList with
      | [x, y] =>
        if m.tk then (takeV os fr x).bind fun q => (opndV os fr y).bind fun y => (appendVV P h m.alt c.argTypes q.1 y s).bind fun r => k (fin m.od r.1) q.2 r.2 (wsOf q.1)
        else (opndV os fr x).bind fun x => (opndV os fr y).bind fun y => (appendVV P h m.alt c.argTypes x y s).bind fun r => k (fin m.od r.1) fr r.2 (wsOf x)
      | _ => none
    | .builtin .copy =>
      match c.args.toList with
      | [x, y] => (opndV os fr x).bind fun x => (opndV os fr y).bind fun y => (copyVV P h c.argTypes x y s).bind fun r => k r.1 fr r.2 (wsOf x)
      | _ => none
    | .builtin .min => (opndsV os fr c.args.toList).bind fun args => (pMMV P false c.argTypes o.type args).bind fun v => k v fr s []
    | .builtin .max => (opndsV os fr c.args.toList).bind fun args => (pMMV P true c.argTypes o.type args).bind fun v => k v fr s []
    | _ => none
  | _ => none

/-! ### Regions -/
structure Item where
  o : Oper
  m : Mode
  fl : List (Operand × Bool)

/-- May what floats about an operation come on either side of it? 'true': an operand that is made. -/
def flOk1 (s : VS) (ws : List Nat) (mk : Bool) : VV → Bool
  | .ptr b _ => !ws.contains b && ((rowV s b).map fun c => c.all simpleV).getD false
  | .rs _ b _ _ _ _ => !ws.contains b && ((rowV s b).map fun c => c.all simpleV).getD false
  | .sl f _ _ => !mk || f == 1
  | .pt _ => !mk
  | _ => true
def flOk (os : List Nat) (fr : VFr) (s : VS) (ws : List Nat) : List (Operand × Bool) → Bool
  | [] => true
  | x :: r => (match opndV os fr x.1 with | some v => flOk1 s ws x.2 v | none => false) && flOk os fr s ws r
def onV {α : Type} (b : Bool) (x : Option α) : Option α := match b with | true => x | false => none
def brB {α : Type} (v : VV) (a b : Option α) : Option α := match v with
  | .p (.bool true) => a
  | .p (.bool false) => b
  | _ => none

def evalG {α : Type} (P : Program) (C : VOracle) (h nt : Nat) (os : List Nat) (all : List Oper) : List Nat → List Item → VFr → VS → (VFr → VS → Option α) → Option α
  | _, [], fr, s, k => k fr s
  | sk, it :: r, fr, s, k =>
    if dstOk nt it.o.dst && it.o.dst.all (fun d => !sk.contains d) && !it.m.tk then
      match it.o.guard with
      | none => evalOpV P C h os it.m it.o fr s fun v fr' s' ws => onV (flOk os fr s ws it.fl) (evalG P C h nt os all sk r (putV fr' it.o.dst v) s' k)
      | some (j, want) =>
        match (all[j]?).bind (·.dst) with
        | none => none
        | some t =>
          if sk.contains t then onV (flOk os fr s [] it.fl) (evalG P C h nt os all (it.o.dst.toList ++ sk) r (putV fr it.o.dst undefV) s k)
          else (lkV t fr).bind fun v => brB v
            (if want then evalOpV P C h os it.m it.o ((t, VB true) :: fr) s fun v fr' s' ws => onV (flOk os fr s ws it.fl) (evalG P C h nt os all sk r (putV fr' it.o.dst v) s' k)
              else onV (flOk os fr s [] it.fl) (evalG P C h nt os all (it.o.dst.toList ++ sk) r (putV ((t, VB true) :: fr) it.o.dst undefV) s k))
            (if want then onV (flOk os fr s [] it.fl) (evalG P C h nt os all (it.o.dst.toList ++ sk) r (putV ((t, VB false) :: fr) it.o.dst undefV) s k)
              else evalOpV P C h os it.m it.o ((t, VB false) :: fr) s fun v fr' s' ws => onV (flOk os fr s ws it.fl) (evalG P C h nt os all sk r (putV fr' it.o.dst v) s' k))
    else none

inductive Blk where
  | one (it : Item)
  | grp (its : List Item)
def inGrp (it : Item) : Bool := it.o.guard.isSome || (match it.o.op with | .pick .. => true | _ => false)
/-- What is guarded, and the choices behind it, together. -/
def blks : List Item → List Item → List Blk
  | acc, [] => match acc with | [] => [] | _ => [.grp acc.reverse]
  | acc, it :: r =>
    if it.o.guard.isSome then blks (it :: acc) r
    else match acc with
      | [] => .one it :: blks [] r
      | _ => if inGrp it then blks (it :: acc) r else .grp acc.reverse :: .one it :: blks [] r
def dropFr (its : List Item) (fr : VFr) : VFr := fr.filter fun x => its.all fun it => it.o.dst != some x.1
def outSl (need : List Nat) (its : List Item) : List Nat := its.filterMap fun it => match it.o.dst with | some d => if need.contains d then some d else none | none => none
def outVs (fr : VFr) : List Nat → Option (List VV)
  | [] => some []
  | t :: r => match lkV t fr with
    | some v => match outVs fr r with
      | some l => some (v :: l)
      | none => none
    | none => none
def outFr (x : List VV) : List Nat → Nat → VFr → VFr
  | [], _, fr => fr
  | t :: r, i, fr => outFr x r (i + 1) ((t, x.getD i undefV) :: fr)

def evalR (P : Program) (C : VOracle) (h nt : Nat) (os need : List Nat) (all : List Oper) : List Blk → VFr → VS → VKF → Option VOut
  | [], fr, s, k => k fr s
  | .one it :: r, fr, s, k => if dstOk nt it.o.dst then evalOpV P C h os it.m it.o fr s fun v fr' s' ws => onV (flOk os fr s ws it.fl) (evalR P C h nt os need all r (putV fr' it.o.dst v) s' k) else none
  | .grp its :: r, fr, s, k => (evalG P C h nt os all [] its fr s fun fr s => match outVs fr (outSl need its) with | some l => some (l, s) | none => none).bind fun x => evalR P C h nt os need all r (outFr x.1 (outSl need its) 0 (dropFr its fr)) x.2 k

def modeOf (L : Nat → List Nat) (id : Nat) (os : List Nat) (i : Nat) (o : Oper) : Mode := ⟨(L (30000 + id)).contains i, (L (50000 + id)).contains i, match o.dst with | some d => os.contains d | none => false⟩
/-- The operands that float about an operation. -/
def flOps (ops : List Oper) : List Nat → Option (List (Operand × Bool))
  | [] => some []
  | i :: r =>
    match ops[i]? with
    | some o => match loadArg o.op with
      | some a => (flOps ops r).map ((a, false) :: ·)
      | none => match o.dst with
        | some t => (flOps ops r).map ((.tmp t, true) :: ·)
        | none => none
    | none => none
def itemsS (L : Nat → List Nat) (id : Nat) (os : List Nat) : Nat → List Oper → List Item
  | _, [] => []
  | i, o :: r => ⟨o, modeOf L id os i o, []⟩ :: itemsS L id os (i + 1) r
def itemsD (L : Nat → List Nat) (id : Nat) (os : List Nat) (ops : List Oper) (anc : List (List Nat)) : List Nat → List Nat → Option (List Item)
  | _, [] => some []
  | c, i :: r =>
    match ops[i]? with
    | some o => (if isSpine o then flOps ops (floats ops anc c i) else some []).bind fun fl => (itemsD L id os ops anc (c ++ [i]) r).map (⟨o, modeOf L id os i o, fl⟩ :: ·)
    | none => none
def evalDrawV (P : Program) (C : VOracle) (L : Nat → List Nat) (h nt id : Nat) (ops : List Oper) (fr : VFr) (s : VS) (k : VKF) : Option VOut :=
  match drawOk ops (ancs ops) (L (20000 + id)) with
  | true => (itemsD L id (L 40000) ops (ancs ops) [] (L (20000 + id))).bind fun its => evalR P C h nt (L 40000) (L (60000 + id)) ops (blks [] its) fr s k
  | false => none

abbrev VKC := Ctl → VFr → VS → Option VOut
abbrev VIter := (VKF → VKF) → VKF
def ifVV {α : Type} (v : VV) (a b : Option α) : Option α := match v with
  | .p (.bool t) => if t then a else b
  | _ => none
def kSeqV (b : VKF) (k : VKC) : VKC := fun c fr s => match c with
  | .norm => b fr s
  | .ret => k .ret fr s
  | .exit i => k (.exit i) fr s
def kBlockV (id : Nat) (k : VKC) : VKC := fun c fr s => match c with
  | .norm => k .norm fr s
  | .ret => k .ret fr s
  | .exit i => if i = id then k .norm fr s else k (.exit i) fr s
def kLoopV (l lo : List Nat) (self : VKF) (k : VKC) : VKC := fun c fr s => match c with
  | .norm => self (killV l fr) s
  | .ret => k .ret (killV lo fr) s
  | .exit i => k (.exit i) (killV lo fr) s

def execV (P : Program) (C : VOracle) (I : VIter) (L : Nat → List Nat) (h nt : Nat) : Code → VFr → VS → VKC → Option VOut
  | .skip, fr, s, k => k .norm fr s
  | .label _, fr, s, k => k .norm fr s
  | .region id ops draw, fr, s, k => if draw then evalDrawV P C L h nt id ops.toList fr s (k .norm) else evalR P C h nt (L 40000) (L (60000 + id)) ops.toList (blks [] (itemsS L id (L 40000) 0 ops.toList)) fr s (k .norm)
  | .seq a b, fr, s, k => execV P C I L h nt a fr s (kSeqV (fun fr s => execV P C I L h nt b fr s k) k)
  | .cond c a b, fr, s, k => (opndV (L 40000) fr c).bind fun v => ifVV v (execV P C I L h nt a fr s k) (execV P C I L h nt b fr s k)
  | .block id a, fr, s, k => execV P C I L h nt a fr s (kBlockV id k)
  | .loop a, fr, s, k => I (fun self fr s => execV P C I L h nt a fr s (kLoopV (L (firstReg a)) (L (10000 + firstReg a)) self k)) (killV (L (firstReg a)) fr) s
  | .exit id, fr, s, k => k (.exit id) fr s
  | .ret, fr, s, k => k .ret fr s
  | _, _, _, _ => none

/-! ### Results -/
def result1V (P : Program) (os : List Nat) (fr : VFr) (s : VS) : ResultVar → Option VV
  | .tmp t => opndV os fr (.tmp t)
  | .cell a t => (opndV os fr (.tmp a)).bind fun p => loadVV P t s p
def resultsLV (P : Program) (os : List Nat) (fr : VFr) (s : VS) : List ResultVar → Option (List VV)
  | [] => some []
  | r :: rs => (result1V P os fr s r).bind fun v => (resultsLV P os fr s rs).bind fun vs => some (v :: vs)
def notTupV : VV → Bool
  | .tup _ => false
  | _ => true
def retLV : List VV → Option VV
  | [v] => some v
  | vs => if vs.all notTupV then some (.tup vs) else none
def retVV (P : Program) (os : List Nat) (rs : List ResultVar) (fr : VFr) (s : VS) : Option VV :=
  match rs with
  | [.tmp t] => lkV t fr
  | rs => (resultsLV P os fr s rs).bind retLV

/-- What is made in a call, and told by it, is a value. -/
def frz1 (h : Nat) (s : VS) (top : Bool) : VV → VV
  | .rs ag b o n k f =>
    if h ≤ b then
      match s.σ[b]? with
      | some (.arr c _ op) => if op && c.all simpleV && lowL h c && (ag || k == 1) && k != 0 && decide (o + n * k ≤ c.length) && (f == 0 || f == 1) then
          .sl (if f = 1 then 1 else if top && decide (o + n * k = c.length) then 2 else 0) k (chunk ag k n ((c.drop o).map cls)) else .rs ag b o n k f
      | _ => .rs ag b o n k f
    else .rs ag b o n k f
  | v => v
def frz (h : Nat) (s : VS) : VV → VV
  | .agg cs => .agg (cs.map (frz1 h s false))
  | .tup vs => .tup (vs.map fun | .agg cs => .agg (cs.map (frz1 h s false)) | v => frz1 h s false v)
  | v => frz1 h s true v

/-- The one object that is told. -/
def oneRef (h : Nat) : VV → Option Nat
  | .ptr b _ => if h ≤ b then some b else none
  | .rs _ b _ _ _ _ => if h ≤ b then some b else none
  | .fn _ a b => (a ++ b).findSome? fun | .ptr b _ => if h ≤ b then some b else none | _ => none
  | .tup vs => vs.findSome? fun | .ptr b _ => if h ≤ b then some b else none | _ => none
  | _ => none
def ren1V (b h : Nat) : VV → VV
  | .ptr b' o => if b' = b then .ptr h o else .ptr b' o
  | .rs ag b' o n k f => if b' = b then .rs ag h o n k f else .rs ag b' o n k f
  | v => v
def renVV (b h : Nat) : VV → VV
  | .fn f x y => .fn f (x.map (ren1V b h)) (y.map (ren1V b h))
  | .tup vs => .tup (vs.map (ren1V b h))
  | v => ren1V b h v
/-- 'nf': what is told may still be written. -/
def gcV (nf : Bool) (h : Nat) (v : VV) (s : VS) : VOut :=
  match s.ev with
  | [] =>
    if low h (if nf then v else frz h s v) then (if nf then v else frz h s v, ⟨s.σ.take h, [], s.wr⟩)
    else
      match oneRef h v with
      | some b =>
        match s.σ[b]? with
        | some (.arr c lo op) => if lowL h c && decide (h ≤ b) && lowP (fun x => decide (x < h) || x == b) v && low (h + 1) (renVV b h v) then (renVV b h v, ⟨s.σ.take h ++ [.arr c lo op], [], s.wr⟩) else (v, ⟨s.σ, [], s.wr⟩)
        | _ => (v, ⟨s.σ, [], s.wr⟩)
      | none => (v, ⟨s.σ, [], s.wr⟩)
  | ev => (v, ⟨s.σ, ev, s.wr⟩)

def enterV (args : List VV) : VFr := args.zipIdx.map fun (v, i) => (i, v)
def kRetV (P : Program) (os : List Nat) (nf : Bool) (rs : List ResultVar) (h : Nat) : VKC := fun c fr s => match c with
  | .exit _ => none
  | .norm => (retVV P os rs fr s).bind fun v => some (gcV nf h v s)
  | .ret => (retVV P os rs fr s).bind fun v => some (gcV nf h v s)
def bodyV (P : Program) (C : VOracle) (I : VIter) (H : FuncId → Nat → List Nat) (f : FuncId) (args : List VV) (σ : List VObj) : Option VOut :=
  match P.funcs[f]? with
  | some fn =>
    match fn.body with
    | some c =>
      if args.length ≤ fn.ntmps then
        execV P C I (H f) σ.length fn.ntmps c (enterV args) ⟨σ, [], []⟩ (kRetV P (H f 40000) (!(H f 70000).isEmpty) fn.results.toList σ.length)
      else none
    | none => none
  | none => none
def iterNV : Nat → VIter
  | 0, _ => fun _ _ => none
  | n + 1, step => step (iterNV n step)
def callNV (P : Program) (X : FuncId → Option (List VV → List VObj → Option VOut)) (H : FuncId → Nat → List Nat) : Nat → VOracle
  | 0 => fun _ _ _ => none
  | n + 1 => fun f args σ => match X f with
    | some g => g args σ
    | none => bodyV P (callNV P X H n) (iterNV n) H f args σ

end Go.Vm
