/-
  What the abstract machine's operations make of values that are written out.
-/
import Derived.Test.YtaelaaimbkpmdaaSim4
import Derived.Test.YtaelaaimbkpmdaaLim
namespace Go.Ab
open Go
variable {P : Program} {t : TypeId}

/-! ### Integers -/
@[simp] theorem binq_add (k : IntKind) (a b : Int) : binq P .add t (.int k a) (.int k b) = some (.int k (k.wrap (a + b))) := by cases k <;> rfl
@[simp] theorem binq_sub (k : IntKind) (a b : Int) : binq P .sub t (.int k a) (.int k b) = some (.int k (k.wrap (a - b))) := by cases k <;> rfl
@[simp] theorem binq_mul (k : IntKind) (a b : Int) : binq P .mul t (.int k a) (.int k b) = some (.int k (k.wrap (a * b))) := by cases k <;> rfl
@[simp] theorem binq_eql (k : IntKind) (a b : Int) : binq P .eql t (.int k a) (.int k b) = some (.bool (a == b)) := by cases k <;> rfl
@[simp] theorem binq_neq (k : IntKind) (a b : Int) : binq P .neq t (.int k a) (.int k b) = some (.bool (a != b)) := by cases k <;> rfl
@[simp] theorem binq_lss (k : IntKind) (a b : Int) : binq P .lss t (.int k a) (.int k b) = some (.bool (decide (a < b))) := by cases k <;> rfl
@[simp] theorem binq_leq (k : IntKind) (a b : Int) : binq P .leq t (.int k a) (.int k b) = some (.bool (decide (a ≤ b))) := by cases k <;> rfl
@[simp] theorem binq_gtr (k : IntKind) (a b : Int) : binq P .gtr t (.int k a) (.int k b) = some (.bool (decide (a > b))) := by cases k <;> rfl
@[simp] theorem binq_geq (k : IntKind) (a b : Int) : binq P .geq t (.int k a) (.int k b) = some (.bool (decide (a ≥ b))) := by cases k <;> rfl
theorem binq_quo (k : IntKind) (a b : Int) (hb : b ≠ 0) : binq P .quo t (.int k a) (.int k b) = some (.int k (k.wrap (a.tdiv b))) := by
  have : binq P .quo t (.int k a) (.int k b) = quietP P (Op.intDiv .quo k a b) := by cases k <;> rfl
  rw [this, Op.intDiv, if_neg hb]; rfl
theorem binq_rem (k : IntKind) (a b : Int) (hb : b ≠ 0) : binq P .rem t (.int k a) (.int k b) = some (.int k (a.tmod b)) := by
  have : binq P .rem t (.int k a) (.int k b) = quietP P (Op.intDiv .rem k a b) := by cases k <;> rfl
  rw [this, Op.intDiv, if_neg hb]; rfl
@[simp] theorem binq_and (k : IntKind) (a b : Int) : binq P .and t (.int k a) (.int k b) = some (.int k (k.wrap ((BitVec.ofInt k.bits a &&& BitVec.ofInt k.bits b).toNat : Nat))) := by cases k <;> rfl
@[simp] theorem binq_or (k : IntKind) (a b : Int) : binq P .or t (.int k a) (.int k b) = some (.int k (k.wrap ((BitVec.ofInt k.bits a ||| BitVec.ofInt k.bits b).toNat : Nat))) := by cases k <;> rfl
@[simp] theorem binq_xor (k : IntKind) (a b : Int) : binq P .xor t (.int k a) (.int k b) = some (.int k (k.wrap ((BitVec.ofInt k.bits a ^^^ BitVec.ofInt k.bits b).toNat : Nat))) := by cases k <;> rfl
theorem binq_shr (k l : IntKind) (a b : Int) (hb : 0 ≤ b) : binq P .shr t (.int k a) (.int l b) = some (.int k (a.fdiv (2 ^ min b.toNat k.bits))) := by
  have : binq P .shr t (.int k a) (.int l b) = quietP P (Op.shift .shr k a l b) := by cases k <;> cases l <;> rfl
  rw [this, Op.shift, if_neg (by omega)]; rfl
theorem binq_shl (k l : IntKind) (a b : Int) (hb : 0 ≤ b) : binq P .shl t (.int k a) (.int l b) = some (.int k (k.wrap (a * 2 ^ min b.toNat k.bits))) := by
  have : binq P .shl t (.int k a) (.int l b) = quietP P (Op.shift .shl k a l b) := by cases k <;> cases l <;> rfl
  rw [this, Op.shift, if_neg (by omega)]; rfl
@[simp] theorem pMM_min (k : IntKind) (ts : Array TypeId) (a b : Int) : pMM P false ts t [.int k a, .int k b] = some (.int k (if b < a then b else a)) := by cases k <;> rfl
@[simp] theorem pMM_max (k : IntKind) (ts : Array TypeId) (a b : Int) : pMM P true ts t [.int k a, .int k b] = some (.int k (if a < b then b else a)) := by cases k <;> rfl

/-! ### Truth values -/
theorem quiet_bind {α β : Type} (f : α → Sem β) : ∀ (s : Sem α), quiet P (s.bind f) = (quiet P s).bind fun a => quiet P (f a)
  | .pure a => rfl
  | .program k => quiet_bind f (k P)
  | .load .. | .store .. | .new .. | .shape .. | .freeze .. | .frozen .. | .getObj .. | .setObj ..
  | .choose .. | .sys .. | .mark .. | .halt .. => rfl
theorem quiet_underlying {d : TypeDesc} (ht : P.underlying t = some d) : quiet P (underlying t) = some d := by
  unfold underlying
  simp only [bind, quiet_bind]
  show (some P).bind _ = _
  simp only [Option.bind_some, ht]
  rfl
theorem equalIn_bool (ht : P.underlying t = some .bool) (n : Nat) (a b : Bool) : quiet P (Op.equalIn (n + 1) t (.bool a) (.bool b)) = some (a == b) := by
  unfold Op.equalIn
  simp only [bind, quiet_bind, quiet_underlying ht, Option.bind_some]
  rfl
theorem binq_eqlb (ht : P.underlying t = some .bool) (a b : Bool) : binq P .eql t (.bool a) (.bool b) = some (.bool (a == b)) := by
  have h1 : quiet P (binOp .eql t (.bool a) (.bool b)) = some (.bool (a == b)) := by
    show quiet P ((Op.equalIn (9999 + 1) t (.bool a) (.bool b)).bind fun x => Sem.pure (Value.bool x)) = _
    rw [quiet_bind, equalIn_bool ht]; rfl
  show (quiet P (eqGuard .eql t (.tmp 0) (.tmp 0) (.bool a) (.bool b) >>= fun _ => binOp .eql t (.bool a) (.bool b))).bind _ = _
  simp only [bind, quiet_bind]
  show ((some ()).bind fun _ => quiet P (binOp .eql t (.bool a) (.bool b))).bind _ = _
  simp only [Option.bind_some, h1]
  rfl
theorem binq_neqb (ht : P.underlying t = some .bool) (a b : Bool) : binq P .neq t (.bool a) (.bool b) = some (.bool (a != b)) := by
  have h1 : quiet P (binOp .neq t (.bool a) (.bool b)) = some (.bool (a != b)) := by
    show quiet P ((Op.equalIn (9999 + 1) t (.bool a) (.bool b)).bind fun x => Sem.pure (Value.bool (!x))) = _
    rw [quiet_bind, equalIn_bool ht]; rfl
  show (quiet P (eqGuard .neq t (.tmp 0) (.tmp 0) (.bool a) (.bool b) >>= fun _ => binOp .neq t (.bool a) (.bool b))).bind _ = _
  simp only [bind, quiet_bind]
  show ((some ()).bind fun _ => quiet P (binOp .neq t (.bool a) (.bool b))).bind _ = _
  simp only [Option.bind_some, h1]
  rfl
@[simp] theorem pUn_not (b : Bool) : pUn P .not (.bool b) = some (.bool !b) := rfl

/-! ### A step -/
theorem bstep {α β : Type} {m : Option α} {x : α} {f : α → Option β} {r : Option β} (h : m = some x) (k : f x = r) : m.bind f = r := by rw [h]; exact k
theorem cstep {β : Type} {C : Oracle} {k : FuncId} {args : List Value} {s s' : S} {v : Value} {f : Out → Option β} {r : Option β} (h : C k args s.σ = some (v, s')) (q : f (v, ⟨s'.σ, s.ev ++ s'.ev⟩) = r) : (callF C k args s).bind f = r := by
  unfold callF; rw [h]; exact q
theorem ifT {x y : Option Out} {r : Option Out} (k : x = r) : ifV (.bool true) x y = r := k
theorem ifF {x y : Option Out} {r : Option Out} (k : y = r) : ifV (.bool false) x y = r := k
theorem onT {x : Option Out} {r : Option Out} (k : x = r) : onB true x = r := k

/-! ### Choices, parts, calls -/
@[simp] theorem ifV_bool (b : Bool) (x y : Option Out) : ifV (.bool b) x y = if b then x else y := rfl
@[simp] theorem gd_bool (w b : Bool) : gd w (.bool b) = (b == w) := rfl
@[simp] theorem pPick_bool (a b : Option Value) (c : Bool) : pPick a b (.bool c) = if c then a else b := rfl
@[simp] theorem pExtract_tuple (i : Nat) (vs : Array Value) : pExtract i (.tuple vs) = vs[i]? := rfl
@[simp] theorem onB_true (x : Option Out) : onB true x = x := rfl
@[simp] theorem lenSl_slice (a : Option Addr) (n c : Nat) : lenSl (.slice a n c) = some (.int .i64 n) := rfl
@[simp] theorem lenSl_sl (b o n k f : Nat) : lenSl (sl b o n k f) = some (.int .i64 n) := rfl
@[simp] theorem cvI_int (k l : IntKind) (n : Int) : cvI k (.int l n) = some (.int k (k.wrap n)) := rfl
@[simp] theorem idxArr_int (len size b o : Nat) (k : IntKind) (i : Int) : idxArr len size (ptr b o) (.int k i) = if 0 ≤ i ∧ i < (len : Int) then some (ptr b (o + i.toNat * size)) else none := rfl
@[simp] theorem padd_ptr (n b o : Nat) : padd n (ptr b o) = some (ptr b (o + n)) := rfl
theorem idxSl_sl (size b o n f : Nat) (k : IntKind) (i : Int) (hf : f < 2) : idxSl size (sl b o n size f) (.int k i) = if 0 ≤ i ∧ i < (n : Int) then some (ptr b (o + i.toNat * size)) else none := by
  show (if (2 * size + f) / 2 = size ∧ 0 ≤ i ∧ i < (n : Int) then _ else _) = _
  have : (2 * size + f) / 2 = size := by omega
  simp [this]
@[simp] theorem idxSl_sl0 (size b o n : Nat) (k : IntKind) (i : Int) : idxSl size (sl b o n size 0) (.int k i) = if 0 ≤ i ∧ i < (n : Int) then some (ptr b (o + i.toNat * size)) else none := idxSl_sl _ _ _ _ _ _ _ (by decide)
@[simp] theorem idxSl_sl1 (size b o n : Nat) (k : IntKind) (i : Int) : idxSl size (sl b o n size 1) (.int k i) = if 0 ≤ i ∧ i < (n : Int) then some (ptr b (o + i.toNat * size)) else none := idxSl_sl _ _ _ _ _ _ _ (by decide)

/-! ### The store -/
@[simp] theorem ld1_ptr (s : S) (b o : Nat) : ld1 s (ptr b o) = (row s b).bind fun c => c[o]? := rfl
@[simp] theorem ldn_ptr (n : Nat) (s : S) (b o : Nat) : ldn n s (ptr b o) = (row s b).bind fun c => if o + n ≤ c.length then some (.agg ((c.drop o).take n).toArray) else none := rfl
theorem row_of {s : S} {b : Nat} {c : List Value} {lo : Nat} {op : Bool} (h : s.σ[b]? = some (.arr c lo op)) : row s b = some c := by unfold row; rw [h]
@[simp] theorem get_app (σ l : List AObj) (i : Nat) : (σ ++ l)[σ.length + i]? = l[i]? := by rw [List.getElem?_append_right (by omega)]; congr 1; omega
@[simp] theorem get_app0 (σ l : List AObj) : (σ ++ l)[σ.length]? = l[0]? := get_app σ l 0
theorem get_old {σ l : List AObj} {b : Nat} {o : AObj} (h : σ[b]? = some o) : (σ ++ l)[b]? = some o := by rw [List.getElem?_append_left (get_lt h)]; exact h
@[simp] theorem row_app (σ l : List AObj) (ev : List Nat) (i : Nat) : row ⟨σ ++ l, ev⟩ (σ.length + i) = row ⟨l, ev⟩ i := by unfold row; simp only [get_app]
@[simp] theorem row_app0 (σ l : List AObj) (ev : List Nat) : row ⟨σ ++ l, ev⟩ σ.length = row ⟨l, ev⟩ 0 := row_app σ l ev 0
@[simp] theorem row_zero (c : List Value) (lo : Nat) (op : Bool) (l : List AObj) (ev : List Nat) : row ⟨.arr c lo op :: l, ev⟩ 0 = some c := rfl
@[simp] theorem row_succ (o : AObj) (l : List AObj) (ev : List Nat) (i : Nat) : row ⟨o :: l, ev⟩ (i + 1) = row ⟨l, ev⟩ i := rfl
theorem row_old {σ l : List AObj} {ev : List Nat} {b : Nat} {c : List Value} (h : row ⟨σ, ev⟩ b = some c) : row ⟨σ ++ l, ev⟩ b = some c := by
  unfold row at h ⊢
  split at h
  · rename_i h1; simp only at h1 ⊢; rw [get_old h1]; exact h
  · cases h
theorem stv_app (n : Nat) (σ l : List AObj) (ev : List Nat) (i o : Nat) (v : Value) {c : List Value} {lo : Nat} (h : l[i]? = some (.arr c lo true)) : stv n σ.length ⟨σ ++ l, ev⟩ (ptr (σ.length + i) o) v =
    if v.cells.size = n ∧ lo ≤ o ∧ o + v.cells.toList.length ≤ c.length ∧ v.cells.toList.all isCell then some ⟨σ ++ l.set i (.arr (setCells c o v.cells.toList) lo true), ev⟩ else none := by
  unfold stv stn ptr
  simp only [get_app, h]
  by_cases hs : v.cells.size = n
  · rw [if_pos hs]
    by_cases hc : lo ≤ o ∧ o + v.cells.toList.length ≤ c.length ∧ v.cells.toList.all isCell = true
    · rw [if_pos hc, if_pos ⟨hs, hc⟩]
      unfold evUpd
      simp only [Nat.le_add_right, decide_true, Bool.true_or, if_true]
      rw [List.set_append_right _ _ (by omega)]
      congr 4
      omega
    · rw [if_neg hc, if_neg fun h => hc h.2]
  · rw [if_neg hs, if_neg fun h => hs h.1]
/-- What a store makes of an object. -/
def stO (n o : Nat) (v : Value) : Option AObj → Option AObj
  | some (.arr c lo true) => if v.cells.size = n ∧ lo ≤ o ∧ o + v.cells.toList.length ≤ c.length ∧ v.cells.toList.all isCell then some (.arr (setCells c o v.cells.toList) lo true) else none
  | _ => none
@[simp] theorem stO_arr (n o : Nat) (v : Value) (c : List Value) (lo : Nat) : stO n o v (some (.arr c lo true)) = if v.cells.size = n ∧ lo ≤ o ∧ o + v.cells.toList.length ≤ c.length ∧ v.cells.toList.all isCell then some (.arr (setCells c o v.cells.toList) lo true) else none := rfl
@[simp] theorem stv_appM (n : Nat) (σ l : List AObj) (ev : List Nat) (i o : Nat) (v : Value) : stv n σ.length ⟨σ ++ l, ev⟩ (ptr (σ.length + i) o) v = (stO n o v l[i]?).map fun x => ⟨σ ++ l.set i x, ev⟩ := by
  cases h : l[i]? with
  | none => unfold stv stn ptr; simp only [get_app, h, stO]; split <;> rfl
  | some x =>
    cases x with
    | arr c lo op =>
      cases op with
      | true =>
        rw [stv_app _ _ _ _ _ _ _ h]
        simp only [stO]
        split <;> rfl
      | false => unfold stv stn ptr; simp only [get_app, h, stO]; split <;> rfl
    | mp es => unfold stv stn ptr; simp only [get_app, h, stO]; split <;> rfl
    | dead => unfold stv stn ptr; simp only [get_app, h, stO]; split <;> rfl
@[simp] theorem stv_appM0 (n : Nat) (σ l : List AObj) (ev : List Nat) (o : Nat) (v : Value) : stv n σ.length ⟨σ ++ l, ev⟩ (ptr σ.length o) v = (stO n o v l[0]?).map fun x => ⟨σ ++ l.set 0 x, ev⟩ := stv_appM n σ l ev 0 o v
/-- A store of what leads nowhere, into an elder object too. -/
theorem stv_lone (n h : Nat) (σ l : List AObj) (ev : List Nat) (i o : Nat) (v : Value) (hv : v.cells.toList.flatMap refs1 = []) : stv n h ⟨σ ++ l, ev⟩ (ptr (σ.length + i) o) v = (stO n o v l[i]?).map fun x => ⟨σ ++ l.set i x, ev⟩ := by
  rw [← stv_appM]
  unfold stv stn ptr
  simp only
  split
  · split
    · split
      · simp [evUpd, hv]
      · rfl
    · rfl
  · rfl
@[simp] theorem stv_int (n h : Nat) (σ l : List AObj) (ev : List Nat) (i o : Nat) (k : IntKind) (m : Int) : stv n h ⟨σ ++ l, ev⟩ (ptr (σ.length + i) o) (.int k m) = (stO n o (.int k m) l[i]?).map fun x => ⟨σ ++ l.set i x, ev⟩ := stv_lone _ _ _ _ _ _ _ _ rfl
@[simp] theorem stv_int0 (n h : Nat) (σ l : List AObj) (ev : List Nat) (o : Nat) (k : IntKind) (m : Int) : stv n h ⟨σ ++ l, ev⟩ (ptr σ.length o) (.int k m) = (stO n o (.int k m) l[0]?).map fun x => ⟨σ ++ l.set 0 x, ev⟩ := stv_lone _ _ _ _ _ 0 _ _ rfl
@[simp] theorem setCells_nil (c : List Value) (o : Nat) : setCells c o [] = c := rfl
@[simp] theorem setCells_cons (c : List Value) (o : Nat) (v : Value) (vs : List Value) : setCells c o (v :: vs) = setCells (c.set o v) (o + 1) vs := rfl
@[simp] theorem boxc_cells (s : S) (cells : List Value) : boxc s cells = if cells.all isCell then some (ptr s.σ.length 0, ⟨s.σ ++ [.arr cells 0 true], s.ev⟩) else none := rfl
@[simp] theorem isCell_int (k : IntKind) (n : Int) : isCell (.int k n) = true := rfl
@[simp] theorem isCell_bool (b : Bool) : isCell (.bool b) = true := rfl
@[simp] theorem isCell_ptr (b o : Nat) : isCell (ptr b o) = true := rfl
@[simp] theorem isCell_sl (b o n k f : Nat) : isCell (sl b o n k f) = true := rfl
@[simp] theorem cells_int (k : IntKind) (n : Int) : (Value.int k n).cells = #[.int k n] := rfl
@[simp] theorem cells_bool (b : Bool) : (Value.bool b).cells = #[.bool b] := rfl
@[simp] theorem cells_agg (a : Array Value) : (Value.agg a).cells = a := rfl
@[simp] theorem cells_sl (b o n k f : Nat) : (sl b o n k f).cells = #[sl b o n k f] := rfl

/-! ### What is left behind a call -/
/-- A result that leads nowhere: the callee's objects are gone. -/
theorem gc_plain {h : Nat} {v : Value} {σ l : List AObj} (hh : σ.length = h) (hr : refs v = []) : gc h v ⟨σ ++ l, []⟩ = (v, ⟨σ, []⟩) := by
  subst hh
  simp [gc, hr, dedup]
theorem gc_plain0 {v : Value} {σ : List AObj} (hr : refs v = []) : gc σ.length v ⟨σ, []⟩ = (v, ⟨σ, []⟩) := by simp [gc, hr, dedup]
@[simp] theorem refs_int (k : IntKind) (n : Int) : refs (.int k n) = [] := by simp only [refs, refs2, refs1, refs0]
@[simp] theorem refs_bool (b : Bool) : refs (.bool b) = [] := by simp only [refs, refs2, refs1, refs0]
@[simp] theorem callF_mk (C : Oracle) (k : FuncId) (args : List Value) (σ : List AObj) (ev : List Nat) : callF C k args ⟨σ, ev⟩ = (C k args σ).map fun r => (r.1, ⟨r.2.σ, ev ++ r.2.ev⟩) := rfl
theorem callF_ok {C : Oracle} {k : FuncId} {args : List Value} {s : S} {v : Value} {s' : S} (h : C k args s.σ = some (v, s')) : callF C k args s = some (v, ⟨s'.σ, s.ev ++ s'.ev⟩) := by unfold callF; rw [h]; rfl

@[simp] theorem retL_two (a b : Value) : retL [a, b] = if [a, b].all notTuple then some (.tuple #[a, b]) else none := rfl
@[simp] theorem notTuple_int (k : IntKind) (n : Int) : notTuple (.int k n) = true := rfl
@[simp] theorem notTuple_bool (b : Bool) : notTuple (.bool b) = true := rfl
@[simp] theorem refs_tuple2 (a b : Value) : refs (.tuple #[a, b]) = refs2 a ++ refs2 b := by simp [refs]
@[simp] theorem refs2_int (k : IntKind) (n : Int) : refs2 (.int k n) = [] := rfl
@[simp] theorem refs2_bool (b : Bool) : refs2 (.bool b) = [] := rfl
@[simp] theorem gc_plain' {v : Value} {σ l : List AObj} (hr : refs v = []) : gc σ.length v ⟨σ ++ l, []⟩ = (v, ⟨σ, []⟩) := gc_plain rfl hr
@[simp] theorem gc_plain0' {v : Value} {σ : List AObj} (hr : refs v = []) : gc σ.length v ⟨σ, []⟩ = (v, ⟨σ, []⟩) := gc_plain0 hr
end Go.Ab
