/-
  How the machine of values stands to the abstract machine: values, stores.
-/
import Derived.Test.YtkpamaplmjlagaaVm
namespace Go.Vm
open Go Go.Ab
set_option linter.unusedVariables false

inductive Loc where
  | slot (t : Nat)
  | cell (b i : Nat)
  | ext
  | res
  deriving DecidableEq

/-- Where objects lie; which rows nobody writes; which of these nobody appends to; who may append. -/
structure St where
  ι : Nat → Option Nat
  z : Nat → Option (List Value)
  lit : Nat → Prop
  ow : Nat → Option Loc

inductive VR (ι : Nat → Option Nat) (z : Nat → Option (List Value)) (lit : Nat → Prop) : VV → Value → Prop
  | p {v : Value} (h : plain1 v = true) : VR ι z lit (.p v) v
  | ptr {b o a : Nat} (h : ι b = some a) : VR ι z lit (.ptr b o) (.pointer (some ⟨a, o, none⟩))
  | rs {ag : Bool} {b o n k f a : Nat} (h : ι b = some a) (hf : f < 2) (hag : ag = true ∨ k = 1) : VR ι z lit (.rs ag b o n k f) (.slice (some ⟨a, o, none⟩) n (2 * k + f))
  | sl {f k : Nat} {es : List VV} {a o c : Nat} {r : List Value} (hz : z a = some r) (hl : o + es.length * k ≤ r.length) (hc : c < 2) (hf : f = 0 ∨ (f = 1 ∧ c = 1 ∧ lit a) ∨ (f = 3 ∧ c = 1)) (hk : k ≠ 0)
      (hlen : ∀ (i : Nat) (e : VV), es[i]? = some e → (cellsV e).length = k) (hes : ∀ (i : Nat) (e : VV) (j : Nat) (x : VV) (w : Value), es[i]? = some e → (cellsV e)[j]? = some x → r[o + i * k + j]? = some w → VR ι z lit x w) :
      VR ι z lit (.sl f k es) (.slice (some ⟨a, o, none⟩) es.length (2 * k + c))
  | pt {v : VV} {a o : Nat} {r : List Value} (hz : z a = some r) (hl : o + (cellsV v).length ≤ r.length) (hv : ∀ (j : Nat) (x : VV) (w : Value), (cellsV v)[j]? = some x → r[o + j]? = some w → VR ι z lit x w) : VR ι z lit (.pt v) (.pointer (some ⟨a, o, none⟩))
  | agg {cs : List VV} {ws : Array Value} (hl : cs.length = ws.toList.length) (h : ∀ (j : Nat) (x : VV) (w : Value), cs[j]? = some x → ws.toList[j]? = some w → VR ι z lit x w) : VR ι z lit (.agg cs) (.agg ws)
  | fn {f : Fn} {a b : List VV} {a' b' : Array Value} (ha : a.length = a'.toList.length) (hb : b.length = b'.toList.length) (h : ∀ (j : Nat) (x : VV) (w : Value), a[j]? = some x → a'.toList[j]? = some w → VR ι z lit x w) (k : ∀ (j : Nat) (x : VV) (w : Value), b[j]? = some x → b'.toList[j]? = some w → VR ι z lit x w) :
      VR ι z lit (.fn f a b) (.func f a' b')
  | tup {vs : List VV} {ws : Array Value} (hl : vs.length = ws.toList.length) (h : ∀ (j : Nat) (x : VV) (w : Value), vs[j]? = some x → ws.toList[j]? = some w → VR ι z lit x w) : VR ι z lit (.tup vs) (.tuple ws)

abbrev St.R (s : St) : VV → Value → Prop := VR s.ι s.z s.lit

/-- Lists alike, place by place. -/
def All2 {α β : Type} (R : α → β → Prop) (a : List α) (b : List β) : Prop := a.length = b.length ∧ ∀ (j : Nat) (x : α) (w : β), a[j]? = some x → b[j]? = some w → R x w
theorem All2.nil {α β : Type} {R : α → β → Prop} : All2 R [] [] := ⟨rfl, fun j x w h => by simp at h⟩
theorem All2.cons {α β : Type} {R : α → β → Prop} {x : α} {y : β} {a : List α} {b : List β} (h : R x y) (k : All2 R a b) : All2 R (x :: a) (y :: b) := by
  refine ⟨by simp [k.1], fun j u w hu hw => ?_⟩
  cases j with
  | zero => simp at hu hw; subst hu; subst hw; exact h
  | succ j => exact k.2 j u w (by simpa using hu) (by simpa using hw)
theorem All2.cons_inv {α β : Type} {R : α → β → Prop} {x : α} {a : List α} {b : List β} (h : All2 R (x :: a) b) : ∃ y b', b = y :: b' ∧ R x y ∧ All2 R a b' := by
  cases b with
  | nil => exact absurd h.1 (by simp)
  | cons y b => exact ⟨y, b, rfl, h.2 0 x y rfl rfl, by simpa using h.1, fun j u w hu hw => h.2 (j + 1) u w (by simpa using hu) (by simpa using hw)⟩
theorem All2.nil_inv {α β : Type} {R : α → β → Prop} {b : List β} (h : All2 R ([] : List α) b) : b = [] := List.eq_nil_of_length_eq_zero h.1.symm
theorem All2.imp {α β : Type} {R R' : α → β → Prop} {a : List α} {b : List β} (h : All2 R a b) (k : ∀ x w, x ∈ a → R x w → R' x w) : All2 R' a b := ⟨h.1, fun j x w hx hw => k x w (List.mem_of_getElem? hx) (h.2 j x w hx hw)⟩
theorem All2.append {α β : Type} {R : α → β → Prop} {a a' : List α} {b b' : List β} (h : All2 R a b) (k : All2 R a' b') : All2 R (a ++ a') (b ++ b') := by
  refine ⟨by simp [h.1, k.1], fun j x w hx hw => ?_⟩
  rcases Nat.lt_or_ge j a.length with hj | hj
  · rw [List.getElem?_append_left hj] at hx; rw [List.getElem?_append_left (h.1 ▸ hj)] at hw; exact h.2 j x w hx hw
  · rw [List.getElem?_append_right hj] at hx; rw [List.getElem?_append_right (h.1 ▸ hj)] at hw; rw [h.1] at hx; exact k.2 _ x w hx hw
theorem All2.take {α β : Type} {R : α → β → Prop} {a : List α} {b : List β} (h : All2 R a b) (n : Nat) : All2 R (a.take n) (b.take n) := by
  refine ⟨by simp [h.1], fun j x w hx hw => ?_⟩
  rw [List.getElem?_take] at hx hw
  split at hx
  · rename_i hj; rw [if_pos hj] at hw; exact h.2 j x w hx hw
  · cases hx
theorem All2.drop {α β : Type} {R : α → β → Prop} {a : List α} {b : List β} (h : All2 R a b) (n : Nat) : All2 R (a.drop n) (b.drop n) :=
  ⟨by simp [h.1], fun j x w hx hw => h.2 (n + j) x w (by simpa using hx) (by simpa using hw)⟩
theorem All2.get {α β : Type} {R : α → β → Prop} {a : List α} {b : List β} (h : All2 R a b) {j : Nat} {x : α} (hx : a[j]? = some x) : ∃ w, b[j]? = some w ∧ R x w := by
  have hj : j < b.length := h.1 ▸ (List.getElem?_eq_some_iff.1 hx).1
  exact ⟨b[j], List.getElem?_eq_getElem hj, h.2 j x _ hx (List.getElem?_eq_getElem hj)⟩
theorem All2.set {α β : Type} {R : α → β → Prop} {a : List α} {b : List β} (h : All2 R a b) (i : Nat) {x : α} {y : β} (k : R x y) : All2 R (a.set i x) (b.set i y) := by
  refine ⟨by simp [h.1], fun j u w hu hw => ?_⟩
  rw [List.getElem?_set] at hu hw
  split at hu
  · rename_i hij
    rw [if_pos hij] at hw
    split at hu
    · split at hw
      · cases hu; cases hw; exact k
      · cases hw
    · cases hu
  · rename_i hij; rw [if_neg hij] at hw; exact h.2 j u w hu hw
theorem All2.map {α β γ : Type} {R : α → β → Prop} {R' : γ → β → Prop} {f : α → γ} {a : List α} {b : List β} (h : All2 R a b) (k : ∀ x w, x ∈ a → R x w → R' (f x) w) : All2 R' (a.map f) b := by
  refine ⟨by simp [h.1], fun j u w hu hw => ?_⟩
  rw [List.getElem?_map, Option.map_eq_some_iff] at hu
  obtain ⟨x, hx, rfl⟩ := hu
  exact k x w (List.mem_of_getElem? hx) (h.2 j x w hx hw)

section
variable {ι : Nat → Option Nat} {z : Nat → Option (List Value)} {lit : Nat → Prop}

theorem VR.agg_iff {cs : List VV} {w : Value} : VR ι z lit (.agg cs) w ↔ ∃ ws : Array Value, w = .agg ws ∧ All2 (VR ι z lit) cs ws.toList := by
  constructor
  · intro h; cases h with | agg hl h => exact ⟨_, rfl, hl, h⟩
  · rintro ⟨ws, rfl, h⟩; exact .agg h.1 h.2
theorem VR.tup_iff {cs : List VV} {w : Value} : VR ι z lit (.tup cs) w ↔ ∃ ws : Array Value, w = .tuple ws ∧ All2 (VR ι z lit) cs ws.toList := by
  constructor
  · intro h; cases h with | tup hl h => exact ⟨_, rfl, hl, h⟩
  · rintro ⟨ws, rfl, h⟩; exact .tup h.1 h.2
theorem VR.p_inv {v w : Value} (h : VR ι z lit (.p v) w) : w = v ∧ plain1 v = true := by cases h with | p h => exact ⟨rfl, h⟩
theorem VR.ptr_inv {b o : Nat} {w : Value} (h : VR ι z lit (.ptr b o) w) : ∃ a, ι b = some a ∧ w = .pointer (some ⟨a, o, none⟩) := by cases h with | ptr h => exact ⟨_, h, rfl⟩
theorem VR.rs_inv {ag : Bool} {b o n k f : Nat} {w : Value} (h : VR ι z lit (.rs ag b o n k f) w) : ∃ a, ι b = some a ∧ f < 2 ∧ (ag = true ∨ k = 1) ∧ w = .slice (some ⟨a, o, none⟩) n (2 * k + f) := by cases h with | rs h hf hag => exact ⟨_, h, hf, hag, rfl⟩
theorem VR.pt_inv {v : VV} {w : Value} (h : VR ι z lit (.pt v) w) : ∃ a o r, z a = some r ∧ w = .pointer (some ⟨a, o, none⟩) ∧ o + (cellsV v).length ≤ r.length ∧ ∀ (j : Nat) (x : VV) (w : Value), (cellsV v)[j]? = some x → r[o + j]? = some w → VR ι z lit x w := by
  cases h with | pt hz hl hv => exact ⟨_, _, _, hz, rfl, hl, hv⟩
theorem VR.sl_inv {f k : Nat} {es : List VV} {w : Value} (h : VR ι z lit (.sl f k es) w) : ∃ a o c r, z a = some r ∧ w = .slice (some ⟨a, o, none⟩) es.length (2 * k + c) ∧ o + es.length * k ≤ r.length ∧ c < 2 ∧
    (f = 0 ∨ (f = 1 ∧ c = 1 ∧ lit a) ∨ (f = 3 ∧ c = 1)) ∧ k ≠ 0 ∧ (∀ (i : Nat) (e : VV), es[i]? = some e → (cellsV e).length = k) ∧ ∀ (i : Nat) (e : VV) (j : Nat) (x : VV) (w : Value), es[i]? = some e → (cellsV e)[j]? = some x → r[o + i * k + j]? = some w → VR ι z lit x w := by
  cases h with | sl hz hl hc hf hk hlen hes => exact ⟨_, _, _, _, hz, rfl, hl, hc, hf, hk, hlen, hes⟩
theorem VR.fn_inv {f : Fn} {a b : List VV} {w : Value} (h : VR ι z lit (.fn f a b) w) : ∃ a' b' : Array Value, w = .func f a' b' ∧ All2 (VR ι z lit) a a'.toList ∧ All2 (VR ι z lit) b b'.toList := by
  cases h with | fn ha hb h k => exact ⟨_, _, rfl, ⟨ha, h⟩, ⟨hb, k⟩⟩

theorem VR.cells {v : VV} {w : Value} (h : VR ι z lit v w) : All2 (VR ι z lit) (cellsV v) w.cells.toList := by
  cases h with
  | agg hl h => exact ⟨hl, h⟩
  | p hp => cases w <;> first | (simp [plain1] at hp; done) | exact .cons (.p hp) .nil
  | ptr hb => exact .cons (.ptr hb) .nil
  | rs hb hf hag => exact .cons (.rs hb hf hag) .nil
  | sl hz hl hc hf hk hlen hes => exact .cons (.sl hz hl hc hf hk hlen hes) .nil
  | pt hz hl hv => exact .cons (.pt hz hl hv) .nil
  | fn ha hb h k => exact .cons (.fn ha hb h k) .nil
  | tup hl h => exact .cons (.tup hl h) .nil
theorem VR.isC {v : VV} {w : Value} (h : VR ι z lit v w) : isCell w = Go.Vm.isC v := by
  cases h <;> try rfl
  rename_i hp
  cases w <;> first | rfl | (simp [plain1] at hp; done)
theorem VR.cls {v : VV} {w : Value} (h : VR ι z lit v w) : cls v = v := by
  cases h <;> try rfl
  rename_i hf _ _ _
  rcases hf with rfl | ⟨rfl, _⟩ | ⟨rfl, _⟩ <;> rfl
theorem All2.isC {a : List VV} {b : List Value} (h : All2 (VR ι z lit) a b) : b.all isCell = a.all Go.Vm.isC := by
  induction a generalizing b with
  | nil => rw [h.nil_inv]; rfl
  | cons x a ih =>
    obtain ⟨y, b, rfl, h1, h2⟩ := h.cons_inv
    simp only [List.all_cons, h1.isC, ih h2]
/-- A cell, as a value. -/
theorem VR.of_cell {v : VV} (hc : Go.Vm.isC v = true) : cellsV v = [v] := by cases v <;> first | rfl | cases hc

theorem plain1_V {v : Value} (h : plain1 v = true) : VR ι z lit (ofV v) v := by
  cases v <;> first | exact .p h | (simp [plain1] at h; done)
theorem VR_ofV {v : Value} (h : plain v = true) : VR ι z lit (ofV v) v := by
  cases v with
  | agg cs =>
    refine VR.agg_iff.2 ⟨cs, rfl, by simp, fun j x w hx hw => ?_⟩
    rw [List.getElem?_map, Option.map_eq_some_iff] at hx
    obtain ⟨y, hy, rfl⟩ := hx
    rw [hw] at hy; cases hy
    exact .p (by simp only [plain] at h; exact (List.all_eq_true.1 h) _ (List.mem_of_getElem? hw))
  | _ => exact plain1_V h
theorem toVL_eq : ∀ {l : List VV} {vs b : List Value}, toVL l = some vs → All2 (VR ι z lit) l b → vs = b ∧ vs.all plain1 = true
  | [], vs, b, h, k => by rw [k.nil_inv]; simp [toVL] at h; subst h; exact ⟨rfl, rfl⟩
  | x :: l, vs, b, h, k => by
    obtain ⟨y, b, rfl, h1, h2⟩ := k.cons_inv
    cases x with
    | p v =>
      simp only [toVL, Option.map_eq_some_iff] at h
      obtain ⟨vs', h3, rfl⟩ := h
      obtain ⟨rfl, h4⟩ := toVL_eq h3 h2
      obtain ⟨rfl, h5⟩ := h1.p_inv
      exact ⟨rfl, by simp [h4, h5]⟩
    | _ => simp [toVL] at h
theorem toV_eq {x : VV} {v w : Value} (h : toV x = some v) (k : VR ι z lit x w) : v = w ∧ plain v = true := by
  cases x with
  | p u =>
    simp only [toV, Option.some.injEq] at h; subst h
    obtain ⟨rfl, h5⟩ := k.p_inv
    refine ⟨rfl, ?_⟩
    cases w <;> first | exact h5 | (simp [plain1] at h5; done)
  | agg cs =>
    simp only [toV, Option.map_eq_some_iff] at h
    obtain ⟨l, h3, rfl⟩ := h
    obtain ⟨ws, rfl, h4⟩ := VR.agg_iff.1 k
    obtain ⟨rfl, h5⟩ := toVL_eq h3 h4
    exact ⟨by simp, by simpa [plain] using h5⟩
  | _ => simp [toV] at h
theorem toVs_eq : ∀ {l : List VV} {vs b : List Value}, toVs l = some vs → All2 (VR ι z lit) l b → vs = b
  | [], vs, b, h, k => by rw [k.nil_inv]; simp [toVs] at h; exact h
  | x :: l, vs, b, h, k => by
    obtain ⟨y, b, rfl, h1, h2⟩ := k.cons_inv
    simp only [toVs, Option.bind_eq_some_iff, Option.map_eq_some_iff] at h
    obtain ⟨a, h3, vs', h4, rfl⟩ := h
    rw [toVs_eq h4 h2, (toV_eq h3 h1).1]
theorem quietP_plain {P : Program} {m : Sem Value} {v : Value} (h : quietP P m = some v) : plain v = true := by
  unfold quietP at h
  simp only [Option.bind_eq_some_iff] at h
  obtain ⟨u, _, h⟩ := h
  split at h
  · cases h; assumption
  · cases h

/-- What a value leads to, and another naming. -/
theorem VR.change {ι' : Nat → Option Nat} {z' : Nat → Option (List Value)} {lit' : Nat → Prop} (hz : ∀ a r, z a = some r → z' a = some r) (hlit : ∀ a, lit a → lit' a) {q : Nat → Bool} (hq : ∀ b, q b = true → ι' b = ι b) {v : VV} {w : Value} (h : VR ι z lit v w) : lowP q v = true → VR ι' z' lit' v w := by
  have hL : ∀ {l : List VV}, lowPL q l = true → ∀ {j : Nat} {x : VV}, l[j]? = some x → lowP q x = true := by
    intro l
    induction l with
    | nil => intro _ j x hx; simp at hx
    | cons y l ih =>
      intro hl j x hx
      simp only [lowPL, Bool.and_eq_true] at hl
      cases j with
      | zero => simp at hx; subst hx; exact hl.1
      | succ j => exact ih hl.2 (by simpa using hx)
  have hc : ∀ {x : VV}, lowP q x = true → ∀ {j : Nat} {y : VV}, (cellsV x)[j]? = some y → lowP q y = true := by
    intro x hx j y hy
    cases x with
    | agg cs => exact hL (l := cs) (by simpa only [lowP] using hx) hy
    | _ => cases j with
      | zero => simp [cellsV] at hy; subst hy; exact hx
      | succ j => simp [cellsV] at hy
  induction h with
  | p h => intro _; exact .p h
  | ptr h => intro hl; simp only [lowP] at hl; exact .ptr (by rw [hq _ hl]; exact h)
  | rs h hf hag => intro hl; simp only [lowP] at hl; exact .rs (by rw [hq _ hl]; exact h) hf hag
  | sl hz1 hl1 hc1 hf1 hk1 hlen1 hes1 ih =>
    intro hl
    simp only [lowP] at hl
    exact .sl (hz _ _ hz1) hl1 hc1 (hf1.imp_right (Or.imp_left fun h => ⟨h.1, h.2.1, hlit _ h.2.2⟩)) hk1 hlen1 fun i e j x w h1 h2 h3 => ih i e j x w h1 h2 h3 (hc (hL hl h1) h2)
  | pt hz1 hl1 hv1 ih =>
    intro hl
    simp only [lowP] at hl
    exact .pt (hz _ _ hz1) hl1 fun j x w h1 h2 => ih j x w h1 h2 (hc hl h1)
  | agg hl1 h1 ih =>
    intro hl
    simp only [lowP] at hl
    exact .agg hl1 fun j x w h2 h3 => ih j x w h2 h3 (hL hl h2)
  | fn ha1 hb1 h1 k1 ih1 ih2 =>
    intro hl
    simp only [lowP, Bool.and_eq_true] at hl
    exact .fn ha1 hb1 (fun j x w h2 h3 => ih1 j x w h2 h3 (hL hl.1 h2)) (fun j x w h2 h3 => ih2 j x w h2 h3 (hL hl.2 h2))
  | tup hl1 h1 ih =>
    intro hl
    simp only [lowP] at hl
    exact .tup hl1 fun j x w h2 h3 => ih j x w h2 h3 (hL hl h2)
theorem VR.mono {ι' : Nat → Option Nat} {z' : Nat → Option (List Value)} {lit' : Nat → Prop} (hι : ∀ b a, ι b = some a → ι' b = some a) (hz : ∀ a r, z a = some r → z' a = some r) (hlit : ∀ a, lit a → lit' a) {v : VV} {w : Value} (h : VR ι z lit v w) : VR ι' z' lit' v w := by
  induction h with
  | p h => exact .p h
  | ptr h => exact .ptr (hι _ _ h)
  | rs h hf hag => exact .rs (hι _ _ h) hf hag
  | sl hz1 hl1 hc1 hf1 hk1 hlen1 hes1 ih => exact .sl (hz _ _ hz1) hl1 hc1 (hf1.imp_right (Or.imp_left fun h => ⟨h.1, h.2.1, hlit _ h.2.2⟩)) hk1 hlen1 ih
  | pt hz1 hl1 hv1 ih => exact .pt (hz _ _ hz1) hl1 ih
  | agg hl1 h1 ih => exact .agg hl1 ih
  | fn ha1 hb1 h1 k1 ih1 ih2 => exact .fn ha1 hb1 ih1 ih2
  | tup hl1 h1 ih => exact .tup hl1 ih
theorem lowPL_iff {q : Nat → Bool} : ∀ {l : List VV}, lowPL q l = true ↔ ∀ x ∈ l, lowP q x = true
  | [] => by simp [lowPL]
  | x :: l => by simp [lowPL, lowPL_iff (l := l)]
theorem lowPL_get {q : Nat → Bool} {l : List VV} (h : ∀ (j : Nat) (x : VV), l[j]? = some x → lowP q x = true) : lowPL q l = true :=
  lowPL_iff.2 fun x hx => by obtain ⟨j, hj⟩ := List.getElem?_of_mem hx; exact h j x hj
theorem lowP_of_cells {q : Nat → Bool} {v : VV} (h : ∀ (j : Nat) (x : VV), (cellsV v)[j]? = some x → lowP q x = true) : lowP q v = true := by
  cases v with
  | agg cs => simp only [lowP]; exact lowPL_get h
  | _ => exact h 0 _ rfl
/-- What is told of leads to what lies. -/
theorem VR.low {q : Nat → Bool} (hq : ∀ b a, ι b = some a → q b = true) {v : VV} {w : Value} (h : VR ι z lit v w) : lowP q v = true := by
  have hget : ∀ {l : List VV} {ws : List Value}, l.length = ws.length → ∀ {j : Nat} {x : VV}, l[j]? = some x → ∃ w, ws[j]? = some w := by
    intro l ws hl j x hx
    have := (List.getElem?_eq_some_iff.1 hx).1
    exact ⟨_, List.getElem?_eq_getElem (by omega)⟩
  induction h with
  | p h => rfl
  | ptr h => exact hq _ _ h
  | rs h hf hag => exact hq _ _ h
  | sl hz1 hl1 hc1 hf1 hk1 hlen1 hes1 ih =>
    simp only [lowP]
    refine lowPL_get fun i e he => lowP_of_cells fun j x hx => ?_
    rename_i k es a o c r
    have hi := (List.getElem?_eq_some_iff.1 he).1
    have hj := (List.getElem?_eq_some_iff.1 hx).1
    have hb : o + i * k + j < r.length := by
      have h1 := hlen1 i e he
      have : (i + 1) * k ≤ es.length * k := Nat.mul_le_mul_right k hi
      rw [Nat.add_mul] at this; omega
    exact ih i e j x _ he hx (List.getElem?_eq_getElem hb)
  | pt hz1 hl1 hv1 ih =>
    simp only [lowP]
    refine lowP_of_cells fun j x hx => ?_
    have hj := (List.getElem?_eq_some_iff.1 hx).1
    exact ih j x _ hx (List.getElem?_eq_getElem (by omega))
  | agg hl1 h1 ih =>
    simp only [lowP]
    exact lowPL_get fun j x hx => by obtain ⟨w, hw⟩ := hget hl1 hx; exact ih j x w hx hw
  | fn ha1 hb1 h1 k1 ih1 ih2 =>
    simp only [lowP, Bool.and_eq_true]
    exact ⟨lowPL_get fun j x hx => by obtain ⟨w, hw⟩ := hget ha1 hx; exact ih1 j x w hx hw, lowPL_get fun j x hx => by obtain ⟨w, hw⟩ := hget hb1 hx; exact ih2 j x w hx hw⟩
  | tup hl1 h1 ih =>
    simp only [lowP]
    exact lowPL_get fun j x hx => by obtain ⟨w, hw⟩ := hget hl1 hx; exact ih j x w hx hw
end

/-! ### Values that may be appended to -/
inductive VT (s : St) (L : Loc) : VV → Value → Prop
  | c {v : VV} {w : Value} (h : s.R v w) : VT s L v w
  | o {k : Nat} {es : List VV} {a o : Nat} {r : List Value} (hz : s.z a = some r) (he : o + es.length * k = r.length) (how : s.ow a = some L) (h : s.R (.sl 0 k es) (.slice (some ⟨a, o, none⟩) es.length (2 * k))) :
      VT s L (.sl 2 k es) (.slice (some ⟨a, o, none⟩) es.length (2 * k))
theorem VT.cls {s : St} {L : Loc} {v : VV} {w : Value} (h : VT s L v w) : s.R (cls v) w := by
  cases h with
  | c h => rw [VR.cls h]; exact h
  | o hz he how h => exact h
theorem VT.not2 {s : St} {L : Loc} {v : VV} {w : Value} (h : VT s L v w) (hn : Go.Vm.cls v = v) : s.R v w := by rw [← hn]; exact h.cls

def refl1 (w : Value) : Bool := eqv w w
theorem simple_refl {ι : Nat → Option Nat} {z : Nat → Option (List Value)} {lit : Nat → Prop} {v : VV} {w : Value} (h : VR ι z lit v w) (hs : simpleV v = true) : refl1 w = true := by
  cases h <;> simp [simpleV, refl1, eqv] at hs ⊢
  rename_i hp
  cases w <;> simp [plain1, eqv] at hp ⊢
  · rename_i a; cases a <;> simp_all [plain1, eqv]
  · rename_i a n c; cases a with
    | none => simp [eqv]
    | some a => simp [plain1] at hp
  · rename_i a; cases a <;> simp_all [plain1, eqv]

/-- Stores. -/
structure Rel (s : St) (σ : List VObj) (α : List AObj) : Prop where
  dom : ∀ b, σ.length ≤ b → s.ι b = none
  inj : ∀ b b' a, s.ι b = some a → s.ι b' = some a → b = b'
  obj : ∀ (b : Nat) c lo op, σ[b]? = some (.arr c lo op) → ∃ a c' lo' op', s.ι b = some a ∧ α[a]? = some (.arr c' lo' op') ∧ (op = true → op' = true ∧ lo' ≤ lo) ∧ lo ≤ c.length ∧ c.length = c'.length ∧ ∀ (j : Nat) (x : VV) (w : Value), c[j]? = some x → c'[j]? = some w → VT s (.cell b j) x w
  zrow : ∀ a r, s.z a = some r → ∃ lo op, α[a]? = some (.arr r lo op) ∧ r.all refl1 = true
  zi : ∀ a r b, s.z a = some r → s.ι b = some a → ∃ c lo, σ[b]? = some (.arr c lo false)
  own : ∀ a L, s.ow a = some L → (∃ r lo, s.z a = some r ∧ α[a]? = some (.arr r lo true) ∧ lo ≤ r.length) ∧ ¬s.lit a ∧ ∀ b, s.ι b ≠ some a
  litz : ∀ a, s.lit a → ∃ r, s.z a = some r

def Loc.fix : Loc → Prop
  | .slot _ | .ext => True
  | _ => False
/-- What has become of all. 'ws': what was written. -/
structure Ex (F : Loc → Prop) (s : St) (σ : List VObj) (α : List AObj) (s1 : St) (σ1 : List VObj) (α1 : List AObj) (ws : List Nat) : Prop where
  z : ∀ a r, s.z a = some r → s1.z a = some r
  lit : ∀ a, s.lit a → s1.lit a
  ι : ∀ b, b < σ.length → s1.ι b = s.ι b
  lenV : σ.length ≤ σ1.length
  lenA : α.length ≤ α1.length
  ow : ∀ a L, s.ow a = some L → F L → s1.ow a = some L
  keep : ∀ b a, b ∉ ws → s.ι b = some a → α1[a]? = α[a]?
  zobj : ∀ a r, s.z a = some r → (s.lit a ∨ ∃ L, s.ow a = some L ∧ F L) → α1[a]? = α[a]?

theorem Rel.lt {s : St} {σ : List VObj} {α : List AObj} (h : Rel s σ α) {b a : Nat} (hb : s.ι b = some a) : b < σ.length := by
  rcases Nat.lt_or_ge b σ.length with hlt | hge
  · exact hlt
  · rw [h.dom b hge] at hb; cases hb
theorem Ex.refl {F : Loc → Prop} (s : St) (σ : List VObj) (α : List AObj) (ws : List Nat) : Ex F s σ α s σ α ws := ⟨fun _ _ h => h, fun _ h => h, fun _ _ => rfl, Nat.le_refl _, Nat.le_refl _, fun _ _ h _ => h, fun _ _ _ _ => rfl, fun _ _ _ _ => rfl⟩
theorem Ex.mι {F : Loc → Prop} {s s1 : St} {σ σ1 : List VObj} {α α1 : List AObj} {ws : List Nat} (h : Ex F s σ α s1 σ1 α1 ws) (hR : Rel s σ α) : ∀ b a, s.ι b = some a → s1.ι b = some a := fun b a hb => by rw [h.ι b (hR.lt hb)]; exact hb
theorem Ex.R {F : Loc → Prop} {s s1 : St} {σ σ1 : List VObj} {α α1 : List AObj} {ws : List Nat} (h : Ex F s σ α s1 σ1 α1 ws) (hR : Rel s σ α) {v : VV} {w : Value} (k : s.R v w) : s1.R v w := VR.mono (h.mι hR) h.z h.lit k
theorem Ex.trans {F : Loc → Prop} {s s1 s2 : St} {σ σ1 σ2 : List VObj} {α α1 α2 : List AObj} {ws ws1 : List Nat} (hR : Rel s σ α) (h : Ex F s σ α s1 σ1 α1 ws) (k : Ex F s1 σ1 α1 s2 σ2 α2 ws1) : Ex F s σ α s2 σ2 α2 (ws ++ ws1) where
  z := fun a r hz => k.z a r (h.z a r hz)
  lit := fun a hl => k.lit a (h.lit a hl)
  ι := fun b hb => (k.ι b (Nat.lt_of_lt_of_le hb h.lenV)).trans (h.ι b hb)
  lenV := Nat.le_trans h.lenV k.lenV
  lenA := Nat.le_trans h.lenA k.lenA
  ow := fun a L hL hf => k.ow a L (h.ow a L hL hf) hf
  keep := fun b a hb ha => (k.keep b a (fun hh => hb (List.mem_append.2 (.inr hh))) (h.mι hR b a ha)).trans (h.keep b a (fun hh => hb (List.mem_append.2 (.inl hh))) ha)
  zobj := fun a r hz hl => (k.zobj a r (h.z a r hz) (hl.imp (h.lit a) fun ⟨L, h1, h2⟩ => ⟨L, h.ow a L h1 h2, h2⟩)).trans (h.zobj a r hz hl)

theorem Ex.weaken {F F' : Loc → Prop} {s s1 : St} {σ σ1 : List VObj} {α α1 : List AObj} {ws : List Nat} (h : Ex F s σ α s1 σ1 α1 ws) (hF : ∀ L, F' L → F L) : Ex F' s σ α s1 σ1 α1 ws :=
  ⟨h.z, h.lit, h.ι, h.lenV, h.lenA, fun a L hL hf => h.ow a L hL (hF L hf), h.keep, fun a r hz hl => h.zobj a r hz (hl.imp_right fun ⟨L, h1, h2⟩ => ⟨L, h1, hF L h2⟩)⟩
theorem Ex.ws {F : Loc → Prop} {s s1 : St} {σ σ1 : List VObj} {α α1 : List AObj} {ws ws1 : List Nat} (h : Ex F s σ α s1 σ1 α1 ws) (hw : ∀ b ∈ ws, b ∈ ws1) : Ex F s σ α s1 σ1 α1 ws1 :=
  ⟨h.z, h.lit, h.ι, h.lenV, h.lenA, h.ow, fun b a hb ha => h.keep b a (fun hh => hb (hw b hh)) ha, h.zobj⟩

/-! ### Elements and cells -/
theorem flat_cons (e : VV) (es : List VV) : flat (e :: es) = cellsV e ++ flat es := rfl
theorem flat_append (a b : List VV) : flat (a ++ b) = flat a ++ flat b := by simp [flat]
theorem flat_length {k : Nat} : ∀ {es : List VV}, (∀ e ∈ es, (cellsV e).length = k) → (flat es).length = es.length * k
  | [], _ => by simp [flat]
  | e :: es, h => by rw [flat_cons, List.length_append, h e (by simp), flat_length fun e he => h e (by simp [he]), List.length_cons, Nat.add_mul]; omega
theorem flat_get {k : Nat} : ∀ {es : List VV} {i : Nat} {e : VV} {j : Nat} {x : VV}, (∀ e ∈ es, (cellsV e).length = k) → es[i]? = some e → (cellsV e)[j]? = some x → (flat es)[i * k + j]? = some x
  | [], i, e, j, x, _, h, _ => by simp at h
  | e0 :: es, 0, e, j, x, hk, h, hx => by
    simp at h; subst h
    rw [flat_cons, Nat.zero_mul, Nat.zero_add, List.getElem?_append_left (List.getElem?_eq_some_iff.1 hx).1]; exact hx
  | e0 :: es, i + 1, e, j, x, hk, h, hx => by
    have h0 := hk e0 (by simp)
    rw [flat_cons, List.getElem?_append_right (by rw [h0, Nat.add_mul]; omega), h0, show (i + 1) * k + j - k = i * k + j by rw [Nat.add_mul]; omega]
    exact flat_get (fun e he => hk e (by simp [he])) (by simpa using h) hx
theorem flat_inv {k : Nat} (hk0 : k ≠ 0) : ∀ {es : List VV} {m : Nat} {x : VV}, (∀ e ∈ es, (cellsV e).length = k) → (flat es)[m]? = some x → ∃ e, es[m / k]? = some e ∧ (cellsV e)[m % k]? = some x
  | [], m, x, _, h => by simp [flat] at h
  | e0 :: es, m, x, hk, h => by
    have h0 := hk e0 (by simp)
    rw [flat_cons] at h
    rcases Nat.lt_or_ge m k with hm | hm
    · rw [List.getElem?_append_left (by omega)] at h
      exact ⟨e0, by rw [Nat.div_eq_of_lt hm]; rfl, by rw [Nat.mod_eq_of_lt hm]; exact h⟩
    · rw [List.getElem?_append_right (by omega), h0] at h
      obtain ⟨e, h1, h2⟩ := flat_inv hk0 (fun e he => hk e (by simp [he])) h
      refine ⟨e, ?_, ?_⟩
      · rw [show m / k = (m - k) / k + 1 by rw [← Nat.sub_add_cancel hm, Nat.add_div_right _ (by omega), Nat.add_sub_cancel]]; simpa using h1
      · rw [Nat.mod_eq_sub_mod hm]; exact h2
theorem mem_get {α : Type} {l : List α} {P : α → Prop} (h : ∀ (i : Nat) e, l[i]? = some e → P e) : ∀ e ∈ l, P e := fun e he => by obtain ⟨i, hi⟩ := List.getElem?_of_mem he; exact h i e hi

theorem sl_cells {ι : Nat → Option Nat} {z : Nat → Option (List Value)} {lit : Nat → Prop} {f k : Nat} {es : List VV} {w : Value} (h : VR ι z lit (.sl f k es) w) : ∃ a o c r, z a = some r ∧ w = .slice (some ⟨a, o, none⟩) es.length (2 * k + c) ∧ o + es.length * k ≤ r.length ∧ c < 2 ∧
    (f = 0 ∨ (f = 1 ∧ c = 1 ∧ lit a) ∨ (f = 3 ∧ c = 1)) ∧ k ≠ 0 ∧ (∀ e ∈ es, (cellsV e).length = k) ∧ All2 (VR ι z lit) (flat es) ((r.drop o).take (es.length * k)) := by
  obtain ⟨a, o, c, r, h1, h2, h3, h4, h5, h6, h7, h8⟩ := h.sl_inv
  have h9 : ∀ e ∈ es, (cellsV e).length = k := mem_get h7
  refine ⟨a, o, c, r, h1, h2, h3, h4, h5, h6, h9, ?_, fun j x w hx hw => ?_⟩
  · rw [flat_length h9]; simp; omega
  · obtain ⟨e, g1, g2⟩ := flat_inv h6 h9 hx
    have hj := (List.getElem?_eq_some_iff.1 hx).1
    rw [flat_length h9] at hj
    rw [List.getElem?_take_of_lt hj, List.getElem?_drop] at hw
    refine h8 _ _ _ _ _ g1 g2 ?_
    rw [show o + j / k * k + j % k = o + j by have := Nat.div_add_mod j k; rw [Nat.mul_comm] at this; omega]; exact hw
theorem sl_mk {ι : Nat → Option Nat} {z : Nat → Option (List Value)} {lit : Nat → Prop} {f k a o c : Nat} {es : List VV} {r : List Value} (hz : z a = some r) (hl : o + es.length * k ≤ r.length) (hc : c < 2) (hf : f = 0 ∨ (f = 1 ∧ c = 1 ∧ lit a) ∨ (f = 3 ∧ c = 1)) (hk : k ≠ 0)
    (hlen : ∀ e ∈ es, (cellsV e).length = k) (h : All2 (VR ι z lit) (flat es) ((r.drop o).take (es.length * k))) : VR ι z lit (.sl f k es) (.slice (some ⟨a, o, none⟩) es.length (2 * k + c)) := by
  refine .sl hz hl hc hf hk (fun i e he => hlen e (List.mem_of_getElem? he)) fun i e j x w he hx hw => ?_
  refine h.2 (i * k + j) x w (flat_get hlen he hx) ?_
  have hi := (List.getElem?_eq_some_iff.1 he).1
  have hj := (List.getElem?_eq_some_iff.1 hx).1
  rw [hlen e (List.mem_of_getElem? he)] at hj
  have : (i + 1) * k ≤ es.length * k := Nat.mul_le_mul_right k hi
  rw [Nat.add_mul] at this
  rw [List.getElem?_take_of_lt (by omega), List.getElem?_drop, ← Nat.add_assoc]; exact hw

end Go.Vm
