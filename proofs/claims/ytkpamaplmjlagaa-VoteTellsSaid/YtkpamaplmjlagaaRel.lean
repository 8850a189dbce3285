/-
  How abstract values and objects stand for values and blocks of the model.
-/
import Derived.Test.YtkpamaplmjlagaaAvm
import Derived.Laws.Sem
import Derived.Laws.World
import Derived.Laws.Cells
import Derived.Laws.IdiomCopy
namespace Go.Ab
open Go

theorem quiet_run {α : Type} {P : Program} {w : World} : ∀ {s : Sem α} {a : α}, quiet P s = some a → s.run P w = .ok a w
  | .pure a, b, h => by simp only [quiet, Option.some.injEq] at h; subst h; rfl
  | .program k, b, h => by simp only [quiet] at h; simp only [Sem.run]; exact quiet_run h
  | .load .., _, h | .store .., _, h | .new .., _, h | .shape .., _, h | .freeze .., _, h | .frozen .., _, h | .getObj .., _, h | .setObj .., _, h
  | .choose .., _, h | .sys .., _, h | .mark .., _, h | .halt .., _, h => by simp [quiet] at h

theorem quietP_run {P : Program} {w : World} {s : Sem Value} {v : Value} (h : quietP P s = some v) : s.run P w = .ok v w ∧ plain v = true := by
  unfold quietP at h
  cases hq : quiet P s with
  | none => simp [hq] at h
  | some u =>
    simp only [hq, Option.bind_some] at h
    split at h
    · cases h; exact ⟨quiet_run hq, ‹_›⟩
    · cases h

/-- For an object: its block, the cell of the block where it begins, and how many cells the block has. -/
abbrev Ren := Nat → Option (Nat × Nat × Nat)

def Ren.le (ρ ρ' : Ren) : Prop := ∀ b x, ρ b = some x → ρ' b = some x
theorem Ren.le.refl (ρ : Ren) : ρ.le ρ := fun _ _ h => h
theorem Ren.le.trans {a b c : Ren} (h : a.le b) (k : b.le c) : a.le c := fun _ _ x => k _ _ (h _ _ x)

inductive V0 (ρ : Ren) : Value → Value → Prop
  | plain {v : Value} (h : plain1 v = true) : V0 ρ v v
  | ptr {b o β s N : Nat} (h : ρ b = some (β, s, N)) : V0 ρ (.pointer (some ⟨b, o, none⟩)) (.pointer (some ⟨β, s + o, none⟩))
  | slice {b o n k f β s N c : Nat} {a : Addr} (h : ρ b = some (β, s, N)) (hn : n ≤ c) (hf : f = 0 ∨ (f = 1 ∧ c = n)) (hc : s + o + c * k ≤ N) (ha : c = 0 ∨ a = ⟨β, s + o, none⟩) :
      V0 ρ (.slice (some ⟨b, o, none⟩) n (2 * k + f)) (.slice (some a) n c)
  | map {m β : Nat} (h : ρ m = some (β, 0, 0)) : V0 ρ (.map (some m)) (.map (some β))

/-- Lists alike, place by place. -/
def AllL (R : Value → Value → Prop) (a b : List Value) : Prop := a.length = b.length ∧ ∀ (i : Nat) (x y : Value), a[i]? = some x → b[i]? = some y → R x y

inductive V1 (ρ : Ren) : Value → Value → Prop
  | base {v w : Value} (h : V0 ρ v w) : V1 ρ v w
  | func {fn : Fn} {a a' b b' : Array Value} (ha : AllL (V0 ρ) a.toList a'.toList) (hb : AllL (V0 ρ) b.toList b'.toList) : V1 ρ (.func fn a b) (.func fn a' b')

inductive V2 (ρ : Ren) : Value → Value → Prop
  | cell {v w : Value} (h : V1 ρ v w) : V2 ρ v w
  | agg {a a' : Array Value} (h : AllL (V1 ρ) a.toList a'.toList) : V2 ρ (.agg a) (.agg a')

inductive V (ρ : Ren) : Value → Value → Prop
  | val {v w : Value} (h : V2 ρ v w) : V ρ v w
  | tuple {a a' : Array Value} (h : AllL (V2 ρ) a.toList a'.toList) : V ρ (.tuple a) (.tuple a')

section mono
variable {ρ ρ' : Ren} (hle : ρ.le ρ')
include hle
theorem V0.mono {v w : Value} (h : V0 ρ v w) : V0 ρ' v w := by
  cases h with
  | plain h => exact .plain h
  | ptr h => exact .ptr (hle _ _ h)
  | slice h hn hf hc ha => exact .slice (hle _ _ h) hn hf hc ha
  | map h => exact .map (hle _ _ h)
omit hle in
theorem AllL.imp {R R' : Value → Value → Prop} (h : ∀ x y, R x y → R' x y) {a b : List Value} (k : AllL R a b) : AllL R' a b := ⟨k.1, fun i x y hx hy => h _ _ (k.2 i x y hx hy)⟩
theorem V1.mono {v w : Value} (h : V1 ρ v w) : V1 ρ' v w := by
  cases h with
  | base h => exact .base (h.mono hle)
  | func ha hb => exact .func (ha.imp fun _ _ => V0.mono hle) (hb.imp fun _ _ => V0.mono hle)
theorem V2.mono {v w : Value} (h : V2 ρ v w) : V2 ρ' v w := by
  cases h with
  | cell h => exact .cell (h.mono hle)
  | agg h => exact .agg (h.imp fun _ _ => V1.mono hle)
theorem V.mono {v w : Value} (h : V ρ v w) : V ρ' v w := by
  cases h with
  | val h => exact .val (h.mono hle)
  | tuple h => exact .tuple (h.imp fun _ _ => V2.mono hle)
end mono

theorem AllL.nil {R : Value → Value → Prop} : AllL R [] [] := ⟨rfl, fun i x y h => by simp at h⟩
theorem AllL.cons {R : Value → Value → Prop} {x y : Value} {a b : List Value} (h : R x y) (k : AllL R a b) : AllL R (x :: a) (y :: b) := by
  refine ⟨by simp [k.1], fun i u v hu hv => ?_⟩
  cases i with
  | zero => simp at hu hv; subst hu hv; exact h
  | succ i => exact k.2 i u v (by simpa using hu) (by simpa using hv)
theorem AllL.cons_inv {R : Value → Value → Prop} {x y : Value} {a b : List Value} (h : AllL R (x :: a) (y :: b)) : R x y ∧ AllL R a b :=
  ⟨h.2 0 x y rfl rfl, by have := h.1; simpa using this, fun i u v hu hv => h.2 (i + 1) u v (by simpa using hu) (by simpa using hv)⟩
theorem AllL.left {R : Value → Value → Prop} {x : Value} {a b : List Value} (h : AllL R (x :: a) b) : ∃ y b', b = y :: b' := by
  cases b with
  | nil => have := h.1; simp at this
  | cons y b => exact ⟨y, b, rfl⟩
theorem AllL.append {R : Value → Value → Prop} {a b a' b' : List Value} (h : AllL R a b) (k : AllL R a' b') : AllL R (a ++ a') (b ++ b') := by
  refine ⟨by simp [h.1, k.1], fun i x y hx hy => ?_⟩
  rw [List.getElem?_append] at hx hy
  have := h.1
  by_cases hi : i < a.length
  · rw [if_pos hi] at hx; rw [if_pos (by omega)] at hy; exact h.2 i x y hx hy
  · rw [if_neg hi] at hx; rw [if_neg (by omega)] at hy; rw [← this] at hy; exact k.2 _ x y hx hy
theorem AllL.take {R : Value → Value → Prop} {a b : List Value} (n : Nat) (h : AllL R a b) : AllL R (a.take n) (b.take n) := by
  refine ⟨by simp [h.1], fun i x y hx hy => ?_⟩
  rw [List.getElem?_take] at hx hy
  split at hx
  · rename_i hi; rw [if_pos hi] at hy; exact h.2 i x y hx hy
  · simp at hx
theorem AllL.drop {R : Value → Value → Prop} {a b : List Value} (n : Nat) (h : AllL R a b) : AllL R (a.drop n) (b.drop n) := by
  refine ⟨by simp [h.1], fun i x y hx hy => ?_⟩
  rw [List.getElem?_drop] at hx hy
  exact h.2 _ x y hx hy
theorem AllL.get {R : Value → Value → Prop} {a b : List Value} (h : AllL R a b) {i : Nat} {x : Value} (hx : a[i]? = some x) : ∃ y, b[i]? = some y ∧ R x y := by
  have hi : i < a.length := by
    rcases Nat.lt_or_ge i a.length with h | h
    · exact h
    · rw [List.getElem?_eq_none h] at hx; cases hx
  have : b[i]? = some (b[i]'(by rw [← h.1]; exact hi)) := List.getElem?_eq_getElem _
  exact ⟨_, this, h.2 i x _ hx this⟩
theorem AllL.set {R : Value → Value → Prop} {a b : List Value} (h : AllL R a b) (i : Nat) {x y : Value} (k : R x y) : AllL R (a.set i x) (b.set i y) := by
  refine ⟨by simp [h.1], fun j u v hu hv => ?_⟩
  rw [List.getElem?_set] at hu hv
  have := h.1
  by_cases hij : i = j
  · rw [if_pos hij] at hu hv
    split at hu
    · rw [if_pos (by omega)] at hv; cases hu; cases hv; exact k
    · cases hu
  · rw [if_neg hij] at hu hv; exact h.2 j u v hu hv

theorem plain1_V0 {ρ : Ren} {v w : Value} (hp : plain1 v = true) (h : V0 ρ v w) : v = w := by
  cases h <;> first | rfl | simp [plain1] at hp
theorem plain1_V1 {ρ : Ren} {v w : Value} (hp : plain1 v = true) (h : V1 ρ v w) : v = w := by
  cases h with
  | base h => exact plain1_V0 hp h
  | func => simp [plain1] at hp
theorem AllL.eq_of_plain {ρ : Ren} {a b : List Value} (hp : a.all plain1 = true) (h : AllL (V1 ρ) a b) : a = b := by
  apply List.ext_getElem?
  intro i
  cases ha : a[i]? with
  | none =>
    rw [List.getElem?_eq_none_iff] at ha
    rw [eq_comm, List.getElem?_eq_none_iff, ← h.1]; exact ha
  | some x =>
    obtain ⟨y, hy, hxy⟩ := h.get ha
    rw [hy, plain1_V1 (List.all_eq_true.1 hp x (List.mem_of_getElem? ha)) hxy]
theorem plain_V2 {ρ : Ren} {v w : Value} (hp : plain v = true) (h : V2 ρ v w) : v = w := by
  cases h with
  | cell h =>
    cases h with
    | base h => cases h <;> first | rfl | simp [plain, plain1] at hp
    | func => simp [plain, plain1] at hp
  | agg h => simp only [plain] at hp; rename_i a a'; have := AllL.eq_of_plain hp h; exact congrArg _ (Array.ext' this)
theorem plain_V {ρ : Ren} {v w : Value} (hp : plain v = true) (h : V ρ v w) : v = w := by
  cases h with
  | val h => exact plain_V2 hp h
  | tuple => simp [plain, plain1] at hp
theorem AllL.refl_of {R : Value → Value → Prop} {a : List Value} (h : ∀ x ∈ a, R x x) : AllL R a a :=
  ⟨rfl, fun i x y hx hy => by rw [hx] at hy; cases hy; exact h x (List.mem_of_getElem? hx)⟩
theorem V2_of_plain {ρ : Ren} {v : Value} (hp : plain v = true) : V2 ρ v v := by
  cases v with
  | agg cs => exact .agg (AllL.refl_of fun x hx => .base (.plain (List.all_eq_true.1 hp x hx)))
  | _ => exact .cell (.base (.plain hp))
theorem V_of_plain {ρ : Ren} {v : Value} (hp : plain v = true) : V ρ v v := .val (V2_of_plain hp)

/-- A result of one of the model's own operations on plain values: a plain one. -/
theorem V_int {ρ : Ren} (k : IntKind) (n : Int) : V ρ (.int k n) (.int k n) := V_of_plain rfl
theorem V_bool {ρ : Ren} (b : Bool) : V ρ (.bool b) (.bool b) := V_of_plain rfl
theorem V_undef {ρ : Ren} : V ρ undef undef := .tuple AllL.nil

theorem V1_cells {ρ : Ren} {v w : Value} (h : V1 ρ v w) : v.cells = #[v] ∧ w.cells = #[w] := by
  cases h with
  | base h => cases h <;> first | exact ⟨rfl, rfl⟩ | (rename_i hp; cases v <;> first | exact ⟨rfl, rfl⟩ | simp [plain1] at hp)
  | func => exact ⟨rfl, rfl⟩
theorem V2_cells {ρ : Ren} {v w : Value} (h : V2 ρ v w) : AllL (V1 ρ) v.cells.toList w.cells.toList := by
  cases h with
  | cell h => rw [(V1_cells h).1, (V1_cells h).2]; exact AllL.cons h AllL.nil
  | agg h => exact h
theorem isCell_V1 {ρ : Ren} {v w : Value} (h : V1 ρ v w) : w.oneCell' = true := by
  cases h with
  | base h => cases h <;> first | rfl | (rename_i hp; cases v <;> first | rfl | simp [plain1] at hp)
  | func => rfl
theorem isCell_V1' {ρ : Ren} {v w : Value} (h : V1 ρ v w) : isCell v = true := by
  cases h with
  | base h => cases h <;> first | rfl | (rename_i hp; cases v <;> first | rfl | simp [plain1] at hp)
  | func => rfl
/-- A value whose cells are cells is no tuple. -/
theorem V2_of_isCell {ρ : Ren} {v w : Value} (h : V ρ v w) (hc : v.cells.toList.all isCell = true) : V2 ρ v w := by
  cases h with
  | val h => exact h
  | tuple h => simp [Value.cells, isCell] at hc

/-! ### Stores and worlds -/

def Openc (ρ : Ren) (σ : List AObj) (β i : Nat) : Prop := ∃ b r lo s N, σ[b]? = some (.arr r lo true) ∧ ρ b = some (β, s, N) ∧ s + lo ≤ i

structure Inv (ρ : Ren) (σ : List AObj) (w : World) : Prop where
  new : ∀ b, σ.length ≤ b → ρ b = none
  blk : ∀ b β s N, ρ b = some (β, s, N) → β < w.heap.size
  arr : ∀ b r lo op β s N, σ[b]? = some (.arr r lo op) → ρ b = some (β, s, N) → ∃ c e fz, w.heap[β]? = some (.cells c e fz) ∧ c.size = N ∧ s + r.length ≤ N ∧ lo ≤ r.length ∧
    (∀ i x, r[i]? = some x → ∃ y, c[s + i]? = some y ∧ V1 ρ x y) ∧ (op = true → ∀ i, s + lo ≤ i → i < N → ¬(fz.1 ≤ i ∧ i < fz.2))
  own : ∀ b b' r lo r' lo' op' β s N s' N', b ≠ b' → σ[b]? = some (.arr r lo true) → σ[b']? = some (.arr r' lo' op') → ρ b = some (β, s, N) → ρ b' = some (β, s', N') → op' = false ∧ s' + r'.length ≤ s + lo

/-- What may have become of the world: elder blocks are as they were, but for cells that were open. -/
structure Ext (ρ : Ren) (σ : List AObj) (w w' : World) : Prop where
  os : w'.os = w.os
  tape : w'.tape = w.tape
  output : w'.output = w.output
  size : w.heap.size ≤ w'.heap.size
  cells : ∀ (β : Nat) (c : Array Value) (e : TypeId) (fz : Nat × Nat), w.heap[β]? = some (.cells c e fz) → ∃ c', w'.heap[β]? = some (.cells c' e fz) ∧ c'.size = c.size ∧ ∀ i, ¬Openc ρ σ β i → c'[i]? = c[i]?
  other : ∀ (β : Nat) (o : Obj), w.heap[β]? = some o → (∀ c e fz, o ≠ Obj.cells c e fz) → w'.heap[β]? = some o

structure Step (ρ : Ren) (σ : List AObj) (w : World) (ρ' : Ren) (σ' : List AObj) (w' : World) : Prop where
  le : ρ.le ρ'
  len : σ.length ≤ σ'.length
  old : ∀ b, b < σ.length → ρ' b = ρ b
  ext : Ext ρ σ w w'
  opn : ∀ β i, β < w.heap.size → Openc ρ' σ' β i → Openc ρ σ β i
  inv : Inv ρ' σ' w'

theorem Ext.refl (ρ : Ren) (σ : List AObj) (w : World) : Ext ρ σ w w := ⟨rfl, rfl, rfl, Nat.le_refl _, fun _ c _ _ h => ⟨c, h, rfl, fun _ _ => rfl⟩, fun _ _ h _ => h⟩
theorem Step.refl {ρ : Ren} {σ : List AObj} {w : World} (h : Inv ρ σ w) : Step ρ σ w ρ σ w := ⟨Ren.le.refl _, Nat.le_refl _, fun _ _ => rfl, Ext.refl _ _ _, fun _ _ _ h => h, h⟩
theorem lt_of_get {α : Type} {a : Array α} {i : Nat} {x : α} (h : a[i]? = some x) : i < a.size := by
  rcases Nat.lt_or_ge i a.size with h' | h'
  · exact h'
  · rw [Array.getElem?_eq_none h'] at h; cases h
theorem Step.trans {ρ ρ' ρ'' : Ren} {σ σ' σ'' : List AObj} {w w' w'' : World} (h : Step ρ σ w ρ' σ' w') (k : Step ρ' σ' w' ρ'' σ'' w'') : Step ρ σ w ρ'' σ'' w'' where
  le := h.le.trans k.le
  len := Nat.le_trans h.len k.len
  old := fun b hb => (k.old b (Nat.lt_of_lt_of_le hb h.len)).trans (h.old b hb)
  ext := {
    os := k.ext.os.trans h.ext.os
    tape := k.ext.tape.trans h.ext.tape
    output := k.ext.output.trans h.ext.output
    size := Nat.le_trans h.ext.size k.ext.size
    cells := fun β c e fz hb => by
      obtain ⟨c', h1, h2, h3⟩ := h.ext.cells β c e fz hb
      obtain ⟨c'', k1, k2, k3⟩ := k.ext.cells β c' e fz h1
      exact ⟨c'', k1, k2.trans h2, fun i hi => (k3 i fun hh => hi (h.opn β i (lt_of_get hb) hh)).trans (h3 i hi)⟩
    other := fun β o hb ho => k.ext.other β o (h.ext.other β o hb ho) ho }
  opn := fun β i hb hh => h.opn β i hb (k.opn β i (Nat.lt_of_lt_of_le hb h.ext.size) hh)
  inv := k.inv

/-- The world may draw. -/
theorem Step.drew {ρ : Ren} {σ : List AObj} {w : World} (h : Inv ρ σ w) : Step ρ σ w ρ σ w.drew :=
  ⟨Ren.le.refl _, Nat.le_refl _, fun _ _ => rfl, ⟨rfl, rfl, rfl, Nat.le_refl _, fun _ c _ _ h => ⟨c, h, rfl, fun _ _ => rfl⟩, fun _ _ h _ => h⟩, fun _ _ _ h => h, ⟨h.new, h.blk, h.arr, h.own⟩⟩

end Go.Ab
