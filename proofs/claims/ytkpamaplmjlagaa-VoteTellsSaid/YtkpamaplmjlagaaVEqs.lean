/-
  What the operations of the machine of values make of values that are written out.
-/
import Derived.Test.YtkpamaplmjlagaaVLim
namespace Go.Vm
open Go Go.Ab
set_option linter.unusedVariables false
variable {P : Program} {t : TypeId}

/-- 'simp' is kept from what comes behind. -/
theorem bind_congr1 {α β : Type} {m m' : Option α} {f : α → Option β} (h : m = m') : m.bind f = m'.bind f := by rw [h]
theorem bstepV {α β : Type} {m : Option α} {x : α} {f : α → Option β} {r : Option β} (h : m = some x) (k : f x = r) : m.bind f = r := by rw [h]; exact k
theorem ifVV_congr1 {α : Type} {v v' : VV} {a b : Option α} (h : v = v') : ifVV v a b = ifVV v' a b := by rw [h]

@[simp] theorem cls_p (v : Value) : cls (.p v) = .p v := rfl
@[simp] theorem cls_ptr (b o : Nat) : cls (.ptr b o) = .ptr b o := rfl
@[simp] theorem cls_rs (ag : Bool) (b o n k f : Nat) : cls (.rs ag b o n k f) = .rs ag b o n k f := rfl
@[simp] theorem cls_pt (v : VV) : cls (.pt v) = .pt v := rfl
@[simp] theorem cls_agg (cs : List VV) : cls (.agg cs) = .agg cs := rfl
@[simp] theorem cls_tup (cs : List VV) : cls (.tup cs) = .tup cs := rfl
@[simp] theorem cls_fn (f : Fn) (a b : List VV) : cls (.fn f a b) = .fn f a b := rfl
@[simp] theorem cls_sl0 (k : Nat) (es : List VV) : cls (.sl 0 k es) = .sl 0 k es := rfl
@[simp] theorem cls_sl1 (k : Nat) (es : List VV) : cls (.sl 1 k es) = .sl 1 k es := rfl
@[simp] theorem cls_sl2 (k : Nat) (es : List VV) : cls (.sl 2 k es) = .sl 0 k es := rfl
@[simp] theorem cls_sl3 (k : Nat) (es : List VV) : cls (.sl 3 k es) = .sl 3 k es := rfl
theorem cls_sl {f k : Nat} {es : List VV} (h : f ≠ 2) : cls (.sl f k es) = .sl f k es := by
  unfold cls; split
  · rename_i e; cases e; exact absurd rfl h
  · rfl
@[simp] theorem cls_cls (v : VV) : cls (cls v) = cls v := by
  cases v with
  | sl f k es =>
    by_cases h : f = 2
    · subst h; rfl
    · rw [cls_sl h, cls_sl h]
  | _ => rfl

@[simp] theorem binqV_add (k : IntKind) (a b : Int) : binqV P .add t (VI k a) (VI k b) = some (VI k (k.wrap (a + b))) := by cases k <;> rfl
@[simp] theorem binqV_sub (k : IntKind) (a b : Int) : binqV P .sub t (VI k a) (VI k b) = some (VI k (k.wrap (a - b))) := by cases k <;> rfl
@[simp] theorem binqV_mul (k : IntKind) (a b : Int) : binqV P .mul t (VI k a) (VI k b) = some (VI k (k.wrap (a * b))) := by cases k <;> rfl
@[simp] theorem binqV_eql (k : IntKind) (a b : Int) : binqV P .eql t (VI k a) (VI k b) = some (VB (a == b)) := by cases k <;> rfl
@[simp] theorem binqV_neq (k : IntKind) (a b : Int) : binqV P .neq t (VI k a) (VI k b) = some (VB (a != b)) := by cases k <;> rfl
@[simp] theorem binqV_lss (k : IntKind) (a b : Int) : binqV P .lss t (VI k a) (VI k b) = some (VB (decide (a < b))) := by cases k <;> rfl
@[simp] theorem binqV_leq (k : IntKind) (a b : Int) : binqV P .leq t (VI k a) (VI k b) = some (VB (decide (a ≤ b))) := by cases k <;> rfl
@[simp] theorem binqV_gtr (k : IntKind) (a b : Int) : binqV P .gtr t (VI k a) (VI k b) = some (VB (decide (b < a))) := by cases k <;> rfl
@[simp] theorem binqV_geq (k : IntKind) (a b : Int) : binqV P .geq t (VI k a) (VI k b) = some (VB (decide (b ≤ a))) := by cases k <;> rfl
@[simp] theorem binqV_and (k : IntKind) (a b : Int) : binqV P .and t (VI k a) (VI k b) = some (VI k (k.wrap ((BitVec.ofInt k.bits a &&& BitVec.ofInt k.bits b).toNat : Nat))) := by cases k <;> rfl
@[simp] theorem binqV_or (k : IntKind) (a b : Int) : binqV P .or t (VI k a) (VI k b) = some (VI k (k.wrap ((BitVec.ofInt k.bits a ||| BitVec.ofInt k.bits b).toNat : Nat))) := by cases k <;> rfl
@[simp] theorem binqV_xor (k : IntKind) (a b : Int) : binqV P .xor t (VI k a) (VI k b) = some (VI k (k.wrap ((BitVec.ofInt k.bits a ^^^ BitVec.ofInt k.bits b).toNat : Nat))) := by cases k <;> rfl
theorem quo0 (k : IntKind) (a b : Int) (hb : b ≠ 0) : binq P .quo t (.int k a) (.int k b) = some (.int k (k.wrap (a.tdiv b))) := by
  have : binq P .quo t (.int k a) (.int k b) = quietP P (Op.intDiv .quo k a b) := by cases k <;> rfl
  rw [this, Op.intDiv, if_neg hb]; rfl
theorem rem0 (k : IntKind) (a b : Int) (hb : b ≠ 0) : binq P .rem t (.int k a) (.int k b) = some (.int k (a.tmod b)) := by
  have : binq P .rem t (.int k a) (.int k b) = quietP P (Op.intDiv .rem k a b) := by cases k <;> rfl
  rw [this, Op.intDiv, if_neg hb]; rfl
theorem shr0 (k l : IntKind) (a b : Int) (hb : 0 ≤ b) : binq P .shr t (.int k a) (.int l b) = some (.int k (a.fdiv (2 ^ min b.toNat k.bits))) := by
  have : binq P .shr t (.int k a) (.int l b) = quietP P (Op.shift .shr k a l b) := by cases k <;> cases l <;> rfl
  rw [this, Op.shift, if_neg (by omega)]; rfl
theorem shl0 (k l : IntKind) (a b : Int) (hb : 0 ≤ b) : binq P .shl t (.int k a) (.int l b) = some (.int k (k.wrap (a * 2 ^ min b.toNat k.bits))) := by
  have : binq P .shl t (.int k a) (.int l b) = quietP P (Op.shift .shl k a l b) := by cases k <;> cases l <;> rfl
  rw [this, Op.shift, if_neg (by omega)]; rfl
@[simp] theorem binqV_quo (k : IntKind) (a b : Int) (hb : b ≠ 0) : binqV P .quo t (VI k a) (VI k b) = some (VI k (k.wrap (a.tdiv b))) := by
  show (binq P .quo t (.int k a) (.int k b)).map ofV = _; rw [quo0 k a b hb]; rfl
@[simp] theorem binqV_rem (k : IntKind) (a b : Int) (hb : b ≠ 0) : binqV P .rem t (VI k a) (VI k b) = some (VI k (a.tmod b)) := by
  show (binq P .rem t (.int k a) (.int k b)).map ofV = _; rw [rem0 k a b hb]; rfl
@[simp] theorem binqV_shr (k l : IntKind) (a b : Int) (hb : 0 ≤ b) : binqV P .shr t (VI k a) (VI l b) = some (VI k (a.fdiv (2 ^ min b.toNat k.bits))) := by
  show (binq P .shr t (.int k a) (.int l b)).map ofV = _; rw [shr0 k l a b hb]; rfl
@[simp] theorem binqV_shl (k l : IntKind) (a b : Int) (hb : 0 ≤ b) : binqV P .shl t (VI k a) (VI l b) = some (VI k (k.wrap (a * 2 ^ min b.toNat k.bits))) := by
  show (binq P .shl t (.int k a) (.int l b)).map ofV = _; rw [shl0 k l a b hb]; rfl
@[simp] theorem pMMV_min (k : IntKind) (ts : Array TypeId) (a b : Int) : pMMV P false ts t [VI k a, VI k b] = some (VI k (if b < a then b else a)) := by cases k <;> rfl
@[simp] theorem pMMV_max (k : IntKind) (ts : Array TypeId) (a b : Int) : pMMV P true ts t [VI k a, VI k b] = some (VI k (if a < b then b else a)) := by cases k <;> rfl

theorem quiet_bind {α β : Type} (f : α → Sem β) : ∀ (s : Sem α), quiet P (s.bind f) = (quiet P s).bind fun a => quiet P (f a)
  | .pure a => rfl
  | .program k => quiet_bind f (k P)
  | .load .. | .store .. | .new .. | .shape .. | .freeze .. | .frozen .. | .getObj .. | .setObj ..
  | .choose .. | .sys .. | .mark .. | .halt .. => rfl
theorem quiet_underlying {d : TypeDesc} (ht : P.underlying t = some d) : quiet P (underlying t) = some d := by
  unfold underlying
  simp only [bind, quiet_bind]
  show (some P).bind _ = _
  simp only [Option.bind_some, ht]
  rfl
theorem equalIn_bool (ht : P.underlying t = some .bool) (n : Nat) (a b : Bool) : quiet P (Op.equalIn (n + 1) t (.bool a) (.bool b)) = some (a == b) := by
  unfold Op.equalIn
  simp only [bind, quiet_bind, quiet_underlying ht, Option.bind_some]
  rfl
theorem binqV_eqlb (ht : P.underlying t = some .bool) (a b : Bool) : binqV P .eql t (VB a) (VB b) = some (VB (a == b)) := by
  have h1 : quiet P (binOp .eql t (.bool a) (.bool b)) = some (.bool (a == b)) := by
    show quiet P ((Op.equalIn (9999 + 1) t (.bool a) (.bool b)).bind fun x => Sem.pure (Value.bool x)) = _
    rw [quiet_bind, equalIn_bool ht]; rfl
  show ((quiet P (eqGuard .eql t (.tmp 0) (.tmp 0) (.bool a) (.bool b) >>= fun _ => binOp .eql t (.bool a) (.bool b))).bind _).map _ = _
  simp only [bind, quiet_bind]
  show (((some ()).bind fun _ => quiet P (binOp .eql t (.bool a) (.bool b))).bind _).map _ = _
  simp only [Option.bind_some, h1]
  rfl
theorem binqV_neqb (ht : P.underlying t = some .bool) (a b : Bool) : binqV P .neq t (VB a) (VB b) = some (VB (a != b)) := by
  have h1 : quiet P (binOp .neq t (.bool a) (.bool b)) = some (.bool (a != b)) := by
    show quiet P ((Op.equalIn (9999 + 1) t (.bool a) (.bool b)).bind fun x => Sem.pure (Value.bool (!x))) = _
    rw [quiet_bind, equalIn_bool ht]; rfl
  show ((quiet P (eqGuard .neq t (.tmp 0) (.tmp 0) (.bool a) (.bool b) >>= fun _ => binOp .neq t (.bool a) (.bool b))).bind _).map _ = _
  simp only [bind, quiet_bind]
  show (((some ()).bind fun _ => quiet P (binOp .neq t (.bool a) (.bool b))).bind _).map _ = _
  simp only [Option.bind_some, h1]
  rfl
@[simp] theorem pUnV_not (b : Bool) : pUnV P .not (VB b) = some (VB !b) := rfl
@[simp] theorem cvIV_int (k l : IntKind) (n : Int) : cvIV k (VI l n) = some (VI k (k.wrap n)) := rfl
@[simp] theorem pickV_bool (a b : Option VV) (c : Bool) : pickV a b (VB c) = if c then a else b := rfl
@[simp] theorem extV_tup (i : Nat) (vs : List VV) : extV i (.tup vs) = (vs[i]?).map cls := rfl
@[simp] theorem onV_true {α : Type} (x : Option α) : onV true x = x := rfl
theorem ifVV_bool {α : Type} (b : Bool) (x y : Option α) : ifVV (VB b) x y = if b then x else y := rfl
@[simp] theorem ifVV_true {α : Type} (x y : Option α) : ifVV (VB true) x y = x := rfl
@[simp] theorem ifVV_false {α : Type} (x y : Option α) : ifVV (VB false) x y = y := rfl
@[simp] theorem brB_true {α : Type} (x y : Option α) : brB (VB true) x y = x := rfl
@[simp] theorem brB_false {α : Type} (x y : Option α) : brB (VB false) x y = y := rfl
@[simp] theorem brB_one (c : Bool) (x y : VV) (s : VS) : brB (VB c) (some ([x], s)) (some ([y], s)) = some ([cond c x y], s) := by cases c <;> rfl
@[simp] theorem brB_nil (c : Bool) (s : VS) : brB (VB c) (some (([] : List VV), s)) (some ([], s)) = some ([], s) := by cases c <;> rfl
@[simp] theorem cond_VB (c x y : Bool) : cond c (VB x) (VB y) = VB (cond c x y) := by cases c <;> rfl
@[simp] theorem cond_VI (c : Bool) (k : IntKind) (x y : Int) : cond c (VI k x) (VI k y) = VI k (cond c x y) := by cases c <;> rfl
@[simp] theorem ite_VB (c : Prop) [Decidable c] (x y : Bool) : (if c then VB x else VB y) = VB (if c then x else y) := by split <;> rfl
@[simp] theorem ite_VI (c : Prop) [Decidable c] (k : IntKind) (x y : Int) : (if c then VI k x else VI k y) = VI k (if c then x else y) := by split <;> rfl
@[simp] theorem getD_0 (x u : VV) (l : List VV) : (x :: l).getD 0 u = x := rfl
@[simp] theorem getD_1 (x y u : VV) (l : List VV) : (x :: y :: l).getD 1 u = y := rfl
@[simp] theorem getD_2 (x y z u : VV) (l : List VV) : (x :: y :: z :: l).getD 2 u = z := rfl

/-! ### Slices -/
@[simp] theorem lenSlV_sl (f k : Nat) (es : List VV) : lenSlV (.sl f k es) = some (VI .i64 es.length) := rfl
@[simp] theorem lenSlV_rs (ag : Bool) (b o n k f : Nat) : lenSlV (.rs ag b o n k f) = some (VI .i64 n) := rfl
@[simp] theorem lenSlV_nil : lenSlV nilsV = some (VI .i64 0) := rfl
@[simp] theorem lenStrV_str (b : ByteArray) : lenStrV (.p (.string b)) = some (VI .i64 b.size) := rfl
@[simp] theorem idxS_sl (f k : Nat) (es : List VV) (kk : IntKind) (i : Int) : idxS k (.sl f k es) (VI kk i) = if 0 ≤ i then (es[i.toNat]?).map .pt else none := by
  unfold idxS
  simp only
  by_cases h0 : 0 ≤ i
  · rw [if_pos h0]
    by_cases h1 : i < (es.length : Int)
    · rw [if_pos ⟨trivial, h0, h1⟩]
    · rw [if_neg (fun h => h1 h.2.2), List.getElem?_eq_none (by omega)]; rfl
  · rw [if_neg (fun h => h0 h.2.1), if_neg h0]
@[simp] theorem idxS_rs (ag : Bool) (b o n k f : Nat) (kk : IntKind) (i : Int) : idxS k (.rs ag b o n k f) (VI kk i) = if 0 ≤ i ∧ i < (n : Int) then some (.ptr b (o + i.toNat * k)) else none := by
  unfold idxS; simp
@[simp] theorem idxA_int (ag : Bool) (len n : Nat) (x : VV) (k : IntKind) (i : Int) : idxA ag len n x (VI k i) = if 0 ≤ i ∧ i < (len : Int) then fldA ag n (i.toNat * n) x else none := rfl
@[simp] theorem idxF_int (ag : Bool) (len n : Nat) (x : VV) (k : IntKind) (i : Int) : idxF ag len n x (VI k i) = if 0 ≤ i ∧ i < (len : Int) then fldF ag n (i.toNat * n) x else none := rfl
@[simp] theorem fldA_ptr (ag : Bool) (n off b o : Nat) : fldA ag n off (.ptr b o) = some (.ptr b (o + off)) := rfl
@[simp] theorem fldA_pt (ag : Bool) (n off : Nat) (cs : List VV) : fldA ag n off (.pt (.agg cs)) = if cs.all isC then (fldC ag n off cs).map .pt else none := rfl
@[simp] theorem fldF_agg (ag : Bool) (n off : Nat) (cs : List VV) : fldF ag n off (.agg cs) = fldC ag n off cs := rfl
@[simp] theorem fldC_true (n off : Nat) (cs : List VV) : fldC true n off cs = if off + n ≤ cs.length then some (.agg ((cs.drop off).take n)) else none := rfl
@[simp] theorem fldC_false (n off : Nat) (cs : List VV) : fldC false n off cs = cs[off]? := rfl
@[simp] theorem isC_p (v : Value) : isC (.p v) = true := rfl
@[simp] theorem isC_ptr (b o : Nat) : isC (.ptr b o) = true := rfl
@[simp] theorem isC_rs (ag : Bool) (b o n k f : Nat) : isC (.rs ag b o n k f) = true := rfl
@[simp] theorem isC_sl (f k : Nat) (es : List VV) : isC (.sl f k es) = true := rfl
@[simp] theorem isC_pt (v : VV) : isC (.pt v) = true := rfl
@[simp] theorem isC_fn (f : Fn) (a b : List VV) : isC (.fn f a b) = true := rfl
@[simp] theorem simpleV_p (v : Value) : simpleV (.p v) = true := rfl
@[simp] theorem simpleV_ptr (b o : Nat) : simpleV (.ptr b o) = true := rfl
@[simp] theorem simpleV_rs (ag : Bool) (b o n k f : Nat) : simpleV (.rs ag b o n k f) = true := rfl
@[simp] theorem simpleV_sl (f k : Nat) (es : List VV) : simpleV (.sl f k es) = true := rfl
@[simp] theorem simpleV_pt (v : VV) : simpleV (.pt v) = true := rfl
@[simp] theorem cellsV_p (v : Value) : cellsV (.p v) = [.p v] := rfl
@[simp] theorem cellsV_ptr (b o : Nat) : cellsV (.ptr b o) = [.ptr b o] := rfl
@[simp] theorem cellsV_rs (ag : Bool) (b o n k f : Nat) : cellsV (.rs ag b o n k f) = [.rs ag b o n k f] := rfl
@[simp] theorem cellsV_sl (f k : Nat) (es : List VV) : cellsV (.sl f k es) = [.sl f k es] := rfl
@[simp] theorem cellsV_fn (f : Fn) (a b : List VV) : cellsV (.fn f a b) = [.fn f a b] := rfl
@[simp] theorem cellsV_agg (cs : List VV) : cellsV (.agg cs) = cs := rfl

/-! ### The store -/
@[simp] theorem ld1V_pt (s : VS) (v : VV) : ld1V s (.pt v) = if isC v then some v else none := rfl
@[simp] theorem ld1V_ptr (s : VS) (b o : Nat) : ld1V s (.ptr b o) = (rowV s b).bind fun c => (c[o]?).map cls := rfl
@[simp] theorem ldnV_pt (n : Nat) (s : VS) (cs : List VV) : ldnV n s (.pt (.agg cs)) = if cs.length = n then some (.agg cs) else none := rfl
@[simp] theorem ldnV_ptr (n : Nat) (s : VS) (b o : Nat) : ldnV n s (.ptr b o) = (rowV s b).bind fun c => if o + n ≤ c.length then some (.agg (((c.drop o).take n).map cls)) else none := rfl
@[simp] theorem boxV_cells (s : VS) (cells : List VV) : boxV s cells = if cells.all isC then some (.ptr s.σ.length 0, ⟨s.σ ++ [.arr cells 0 true], s.ev, s.wr⟩) else none := rfl
@[simp] theorem get_appV (σ l : List VObj) (i : Nat) : (σ ++ l)[σ.length + i]? = l[i]? := by rw [List.getElem?_append_right (by omega)]; congr 1; omega
@[simp] theorem get_appV0 (σ l : List VObj) : (σ ++ l)[σ.length]? = l[0]? := get_appV σ l 0
@[simp] theorem rowV_app (σ l : List VObj) (ev wr : List Nat) (i : Nat) : rowV ⟨σ ++ l, ev, wr⟩ (σ.length + i) = rowV ⟨l, ev, wr⟩ i := by unfold rowV; simp only [get_appV]
@[simp] theorem rowV_app0 (σ l : List VObj) (ev wr : List Nat) : rowV ⟨σ ++ l, ev, wr⟩ σ.length = rowV ⟨l, ev, wr⟩ 0 := rowV_app σ l ev wr 0
@[simp] theorem rowV_zero (c : List VV) (lo : Nat) (op : Bool) (l : List VObj) (ev wr : List Nat) : rowV ⟨.arr c lo op :: l, ev, wr⟩ 0 = some c := rfl
@[simp] theorem rowV_succ (o : VObj) (l : List VObj) (ev wr : List Nat) (i : Nat) : rowV ⟨o :: l, ev, wr⟩ (i + 1) = rowV ⟨l, ev, wr⟩ i := rfl
theorem rowV_old {σ l : List VObj} {ev wr : List Nat} {b : Nat} {c : List VV} {lo : Nat} {op : Bool} (h : σ[b]? = some (.arr c lo op)) : rowV ⟨σ ++ l, ev, wr⟩ b = some c := by
  unfold rowV; simp only; rw [List.getElem?_append_left (getlt h), h]
theorem rowV_of {σ : List VObj} {ev wr : List Nat} {b : Nat} {c : List VV} {lo : Nat} {op : Bool} (h : σ[b]? = some (.arr c lo op)) : rowV ⟨σ, ev, wr⟩ b = some c := by
  unfold rowV; simp only; rw [h]
/-- What a store makes of an object. -/
def stOV (o : Nat) (xs : List VV) : Option VObj → Option VObj
  | some (.arr c lo true) => if lo ≤ o ∧ o + xs.length ≤ c.length ∧ xs.all isC then some (.arr (setV c o xs) lo true) else none
  | _ => none
@[simp] theorem stOV_arr (o : Nat) (xs c : List VV) (lo : Nat) : stOV o xs (some (.arr c lo true)) = if lo ≤ o ∧ o + xs.length ≤ c.length ∧ xs.all isC then some (.arr (setV c o xs) lo true) else none := rfl
@[simp] theorem stvV_app (n : Nat) (σ l : List VObj) (ev wr : List Nat) (i o : Nat) (v : VV) : stvV n σ.length ⟨σ ++ l, ev, wr⟩ (.ptr (σ.length + i) o) v = if (cellsV v).length = n then (stOV o (cellsV v) l[i]?).map fun x => ⟨σ ++ l.set i x, ev, wr⟩ else none := by
  unfold stvV stnV
  split
  · simp only [get_appV]
    cases h : l[i]? with
    | none => rfl
    | some x =>
      obtain ⟨c, lo, op⟩ := x
      cases op with
      | false => rfl
      | true =>
        simp only [stOV]
        split
        · simp only [evU, wrU, Nat.le_add_right, decide_true, Bool.true_or, if_true, Option.map_some]
          rw [List.set_append_right _ _ (by omega)]
          congr 4
          omega
        · rfl
  · rfl
@[simp] theorem stvV_app0 (n : Nat) (σ l : List VObj) (ev wr : List Nat) (o : Nat) (v : VV) : stvV n σ.length ⟨σ ++ l, ev, wr⟩ (.ptr σ.length o) v = if (cellsV v).length = n then (stOV o (cellsV v) l[0]?).map fun x => ⟨σ ++ l.set 0 x, ev, wr⟩ else none := stvV_app n σ l ev wr 0 o v
@[simp] theorem setV_nil (c : List VV) (o : Nat) : setV c o [] = c := rfl
@[simp] theorem setV_cons (c : List VV) (o : Nat) (v : VV) (vs : List VV) : setV c o (v :: vs) = setV (c.set o v) (o + 1) vs := rfl
/-- A store of what leads nowhere new, wherever the call began. -/
theorem stvV_lone (n h : Nat) (σ l : List VObj) (ev wr : List Nat) (i o : Nat) (v : VV) (hl : lowPL (fun b => decide (b < σ.length + i)) (cellsV v) = true) : stvV n h ⟨σ ++ l, ev, wr⟩ (.ptr (σ.length + i) o) v = if (cellsV v).length = n then (stOV o (cellsV v) l[i]?).map fun x => ⟨σ ++ l.set i x, ev, wrU h (σ.length + i) wr⟩ else none := by
  unfold stvV stnV
  split
  · simp only [get_appV]
    cases h : l[i]? with
    | none => rfl
    | some x =>
      obtain ⟨c, lo, op⟩ := x
      cases op with
      | false => rfl
      | true =>
        simp only [stOV]
        split
        · simp only [evU, lowL, hl, Bool.or_true, if_true, Option.map_some]
          rw [List.set_append_right _ _ (by omega)]
          congr 4
          omega
        · rfl
  · rfl
@[simp] theorem stvV_p (n h : Nat) (σ l : List VObj) (ev wr : List Nat) (i o : Nat) (v : Value) : stvV n h ⟨σ ++ l, ev, wr⟩ (.ptr (σ.length + i) o) (.p v) = if 1 = n then (stOV o [.p v] l[i]?).map fun x => ⟨σ ++ l.set i x, ev, wrU h (σ.length + i) wr⟩ else none := stvV_lone n h σ l ev wr i o (.p v) (by simp [lowPL, lowP])
@[simp] theorem stvV_p0 (n h : Nat) (σ l : List VObj) (ev wr : List Nat) (o : Nat) (v : Value) : stvV n h ⟨σ ++ l, ev, wr⟩ (.ptr σ.length o) (.p v) = if 1 = n then (stOV o [.p v] l[0]?).map fun x => ⟨σ ++ l.set 0 x, ev, wrU h σ.length wr⟩ else none := stvV_p n h σ l ev wr 0 o v
theorem wrU_new {h b : Nat} (wr : List Nat) (hb : h ≤ b) : wrU h b wr = wr := if_pos hb
theorem wrU_old {h b : Nat} (wr : List Nat) (hb : b < h) : wrU h b wr = wr ++ [b] := if_neg (by omega)
/-- A store into an elder object. -/
theorem stvV_old {n h b o lo : Nat} {σ l : List VObj} {ev wr : List Nat} {v : VV} {c : List VV} (hb : σ[b]? = some (.arr c lo true)) (hh : b < h) (hv : (cellsV v).length = n) (ho : lo ≤ o ∧ o + n ≤ c.length) (hc : (cellsV v).all isC = true) (hl : lowL b (cellsV v) = true) :
    stvV n h ⟨σ ++ l, ev, wr⟩ (.ptr b o) v = some ⟨σ.set b (.arr (setV c o (cellsV v)) lo true) ++ l, ev, wr ++ [b]⟩ := by
  unfold stvV stnV
  rw [if_pos hv]
  simp only
  rw [List.getElem?_append_left (getlt hb), hb]
  simp only
  rw [if_pos ⟨ho.1, by omega, hc⟩]
  simp only [evU, wrU, hl, Bool.or_true, if_true]
  rw [if_neg (by omega), List.set_append_left _ _ (getlt hb)]

/-! ### Calls and their ends -/
@[simp] theorem callFV_eq (C : VOracle) (h : Nat) (k : FuncId) (args : List VV) (s : VS) : callFV C h k args s = (C k args s.σ).map fun r => (r.1, ⟨r.2.σ, s.ev ++ r.2.ev.filter (fun b => decide (b < h)), s.wr ++ r.2.wr.filter (fun b => decide (b < h))⟩, r.2.wr) := rfl
@[simp] theorem callVV_fn (C : VOracle) (h : Nat) (k : FuncId) (a b args : List VV) (s : VS) : callVV C h (.fn (.func k) a b) args s = callFV C h k (a ++ args ++ b) s := rfl
@[simp] theorem retLV_one (v : VV) : retLV [v] = some v := rfl
@[simp] theorem retLV_nil : retLV [] = some (.tup []) := rfl
@[simp] theorem retLV_two (a b : VV) (l : List VV) : retLV (a :: b :: l) = if (a :: b :: l).all notTupV then some (.tup (a :: b :: l)) else none := rfl
@[simp] theorem notTupV_p (v : Value) : notTupV (.p v) = true := rfl
@[simp] theorem notTupV_ptr (b o : Nat) : notTupV (.ptr b o) = true := rfl
@[simp] theorem notTupV_rs (ag : Bool) (b o n k f : Nat) : notTupV (.rs ag b o n k f) = true := rfl
@[simp] theorem notTupV_sl (f k : Nat) (es : List VV) : notTupV (.sl f k es) = true := rfl
@[simp] theorem notTupV_pt (v : VV) : notTupV (.pt v) = true := rfl
@[simp] theorem notTupV_agg (cs : List VV) : notTupV (.agg cs) = true := rfl
@[simp] theorem notTupV_fn (f : Fn) (a b : List VV) : notTupV (.fn f a b) = true := rfl
@[simp] theorem frz1_p (h : Nat) (s : VS) (top : Bool) (v : Value) : frz1 h s top (.p v) = .p v := rfl
@[simp] theorem frz1_sl (h : Nat) (s : VS) (top : Bool) (f k : Nat) (es : List VV) : frz1 h s top (.sl f k es) = .sl f k es := rfl
@[simp] theorem frz1_ptr (h : Nat) (s : VS) (top : Bool) (b o : Nat) : frz1 h s top (.ptr b o) = .ptr b o := rfl
@[simp] theorem frz1_pt (h : Nat) (s : VS) (top : Bool) (v : VV) : frz1 h s top (.pt v) = .pt v := rfl
@[simp] theorem frz1_fn (h : Nat) (s : VS) (top : Bool) (f : Fn) (a b : List VV) : frz1 h s top (.fn f a b) = .fn f a b := rfl
@[simp] theorem frz_p (h : Nat) (s : VS) (v : Value) : frz h s (.p v) = .p v := rfl
@[simp] theorem frz_sl (h : Nat) (s : VS) (f k : Nat) (es : List VV) : frz h s (.sl f k es) = .sl f k es := rfl
@[simp] theorem frz_ptr (h : Nat) (s : VS) (b o : Nat) : frz h s (.ptr b o) = .ptr b o := rfl
@[simp] theorem frz_pt (h : Nat) (s : VS) (v : VV) : frz h s (.pt v) = .pt v := rfl
@[simp] theorem frz_fn (h : Nat) (s : VS) (f : Fn) (a b : List VV) : frz h s (.fn f a b) = .fn f a b := rfl
@[simp] theorem frz_agg (h : Nat) (s : VS) (cs : List VV) : frz h s (.agg cs) = .agg (cs.map (frz1 h s false)) := rfl
@[simp] theorem frz_rs (h : Nat) (s : VS) (ag : Bool) (b o n k f : Nat) : frz h s (.rs ag b o n k f) = frz1 h s true (.rs ag b o n k f) := rfl
/-- A part of several results. -/
def frzT (h : Nat) (s : VS) : VV → VV
  | .agg cs => .agg (cs.map (frz1 h s false))
  | v => frz1 h s false v
@[simp] theorem frz_tup (h : Nat) (s : VS) (vs : List VV) : frz h s (.tup vs) = .tup (vs.map (frzT h s)) := rfl
@[simp] theorem frzT_p (h : Nat) (s : VS) (v : Value) : frzT h s (.p v) = .p v := rfl
@[simp] theorem frzT_sl (h : Nat) (s : VS) (f k : Nat) (es : List VV) : frzT h s (.sl f k es) = .sl f k es := rfl
@[simp] theorem frzT_ptr (h : Nat) (s : VS) (b o : Nat) : frzT h s (.ptr b o) = .ptr b o := rfl
@[simp] theorem frzT_agg (h : Nat) (s : VS) (cs : List VV) : frzT h s (.agg cs) = .agg (cs.map (frz1 h s false)) := rfl
@[simp] theorem frzT_rs (h : Nat) (s : VS) (ag : Bool) (b o n k f : Nat) : frzT h s (.rs ag b o n k f) = frz1 h s false (.rs ag b o n k f) := rfl
@[simp] theorem frzT_fn (h : Nat) (s : VS) (f : Fn) (a b : List VV) : frzT h s (.fn f a b) = .fn f a b := rfl
@[simp] theorem lowP_p (q : Nat → Bool) (v : Value) : lowP q (.p v) = true := by simp only [lowP]
@[simp] theorem lowP_ptr (q : Nat → Bool) (b o : Nat) : lowP q (.ptr b o) = q b := by simp only [lowP]
@[simp] theorem lowP_rs (q : Nat → Bool) (ag : Bool) (b o n k f : Nat) : lowP q (.rs ag b o n k f) = q b := by simp only [lowP]
@[simp] theorem lowP_sl (q : Nat → Bool) (f k : Nat) (es : List VV) : lowP q (.sl f k es) = lowPL q es := by simp only [lowP]
@[simp] theorem lowP_pt (q : Nat → Bool) (v : VV) : lowP q (.pt v) = lowP q v := by simp only [lowP]
@[simp] theorem lowP_agg (q : Nat → Bool) (cs : List VV) : lowP q (.agg cs) = lowPL q cs := by simp only [lowP]
@[simp] theorem lowP_tup (q : Nat → Bool) (cs : List VV) : lowP q (.tup cs) = lowPL q cs := by simp only [lowP]
@[simp] theorem lowP_fn (q : Nat → Bool) (f : Fn) (a b : List VV) : lowP q (.fn f a b) = (lowPL q a && lowPL q b) := by simp only [lowP]
@[simp] theorem lowPL_nil (q : Nat → Bool) : lowPL q [] = true := by simp only [lowPL]
@[simp] theorem lowPL_cons (q : Nat → Bool) (x : VV) (l : List VV) : lowPL q (x :: l) = (lowP q x && lowPL q l) := by simp only [lowPL]
theorem lowPL_all (q : Nat → Bool) : ∀ (l : List VV), lowPL q l = l.all (lowP q)
  | [] => rfl
  | x :: l => by simp [lowPL_all q l]
@[simp] theorem lowPL_map {α : Type} (q : Nat → Bool) (f : α → VV) (l : List α) : lowPL q (l.map f) = l.all fun x => lowP q (f x) := by rw [lowPL_all, List.all_map]; rfl
@[simp] theorem lowPL_append (q : Nat → Bool) (a b : List VV) : lowPL q (a ++ b) = (lowPL q a && lowPL q b) := by rw [lowPL_all, lowPL_all, lowPL_all, List.all_append]
@[simp] theorem gcV_ok {h : Nat} {v : VV} {σ : List VObj} {wr : List Nat} (hl : lowP (fun b => decide (b < h)) (frz h ⟨σ, [], wr⟩ v) = true) : gcV false h v ⟨σ, [], wr⟩ = (frz h ⟨σ, [], wr⟩ v, ⟨σ.take h, [], wr⟩) := by
  unfold gcV; simp only [Bool.false_eq_true, if_false]; rw [if_pos hl]
@[simp] theorem gcV_nf {h : Nat} {v : VV} {σ : List VObj} {wr : List Nat} (hl : lowP (fun b => decide (b < h)) v = true) : gcV true h v ⟨σ, [], wr⟩ = (v, ⟨σ.take h, [], wr⟩) := by
  unfold gcV; simp only [if_true]; rw [if_pos hl]
@[simp] theorem take_app (σ l : List VObj) : (σ ++ l).take σ.length = σ := by simp

/-- A slice of these elements: nil, where there are none, or a value. -/
inductive IsSl (k : Nat) (es : List VV) : VV → Prop
  | sl {f : Nat} (h : f ≠ 2) : IsSl k es (.sl f k es)
  | nil (h : es = []) : IsSl k es nilsV
theorem IsSl.len {k : Nat} {es : List VV} {v : VV} (h : IsSl k es v) : lenSlV v = some (VI .i64 es.length) := by
  cases h with
  | sl h => rfl
  | nil h => subst h; rfl
theorem IsSl.idx {k : Nat} {es : List VV} {v : VV} (h : IsSl k es v) (kk : IntKind) (i : Int) : idxS k v (VI kk i) = if 0 ≤ i then (es[i.toNat]?).map .pt else none := by
  cases h with
  | sl h => exact idxS_sl _ _ _ _ _
  | nil h => subst h; simp [idxS]
theorem IsSl.cls {k : Nat} {es : List VV} {v : VV} (h : IsSl k es v) : Go.Vm.cls v = v := by
  cases h with
  | sl h => exact cls_sl h
  | nil h => rfl
theorem IsSl.isC {k : Nat} {es : List VV} {v : VV} (h : IsSl k es v) : Go.Vm.isC v = true := by cases h <;> rfl
theorem IsSl.cells {k : Nat} {es : List VV} {v : VV} (h : IsSl k es v) : cellsV v = [v] := by cases h <;> rfl
theorem IsSl.simple {k : Nat} {es : List VV} {v : VV} (h : IsSl k es v) : simpleV v = true := by cases h <;> rfl
theorem IsSl.elems {k : Nat} {es : List VV} {v : VV} (h : IsSl k es v) (ag : Bool) (s : VS) : elems ag s k v = some es := by
  cases h with
  | sl h => simp [Go.Vm.elems]
  | nil h => subst h; rfl
theorem IsSl.low {k : Nat} {es : List VV} {v : VV} (h : IsSl k es v) {q : Nat → Bool} (hl : lowPL q es = true) : lowP q v = true := by
  cases h with
  | sl h => simpa using hl
  | nil h => rfl
theorem wrap64 {n : Int} (h0 : -9223372036854775808 ≤ n) (h1 : n < 9223372036854775808) : IntKind.i64.wrap n = n := by
  unfold IntKind.wrap
  simp [IntKind.bits, IntKind.signed]
  omega
theorem wrap16 {n : Int} (h0 : 0 ≤ n) (h1 : n < 65536) : IntKind.u16.wrap n = n := by
  unfold IntKind.wrap
  simp [IntKind.bits, IntKind.signed]
  omega
theorem wrap8 {n : Int} (h0 : 0 ≤ n) (h1 : n < 256) : IntKind.u8.wrap n = n := by
  unfold IntKind.wrap
  simp [IntKind.bits, IntKind.signed]
  omega
/-- One to a number of a loop. -/
theorem wrap_succ {n : Nat} (h : n < 2 ^ 62) : IntKind.i64.wrap ((n : Int) + 1) = ((n + 1 : Nat) : Int) := by rw [wrap64 (by omega) (by omega)]; omega
end Go.Vm
