/-
  What a law is given, out of the world into the machine of values.
-/
import Derived.Test.YtkpamaplmjlagaaVBridge
namespace Go.Vm
open Go Go.Ab
set_option linter.unusedVariables false

/-- The shapes of what may be given. -/
inductive Sh
  | int (k : IntKind)
  | bool
  | str
  | st (l : List Sh)
  | sl (k : Nat) (e : Sh)

mutual
/-- What a shape's values are. -/
inductive HasV : Sh → VV → Prop
  | int {k : IntKind} {n : Int} (h : (Lit.int k n).wf = true) : HasV (.int k) (VI k n)
  | bool {b : Bool} : HasV .bool (VB b)
  | str {s : ByteArray} (h : s.size ≤ maxLen) : HasV .str (.p (.string s))
  | nil {k : Nat} {e : Sh} : HasV (.sl k e) nilsV
  | sl {k : Nat} {e : Sh} {es : List VV} (hl : es.length ≤ maxLen) (h : ∀ x, x ∈ es → HasV e x) (hk : ∀ x, x ∈ es → (cellsV x).length = k) : HasV (.sl k e) (.sl 0 k es)
  | st {l : List Sh} {cs : List VV} (h : HasL l cs) : HasV (.st l) (.agg cs)
inductive HasL : List Sh → List VV → Prop
  | nil : HasL [] []
  | cons {s : Sh} {ss : List Sh} {v : VV} {cs : List VV} (h : HasV s v) (k : HasL ss cs) : HasL (s :: ss) (cellsV v ++ cs)
end

section
variable {P : Program} {H : Type} {enc : TypeId × Value → H} {W : World}

def contig (P : Program) : Nat → List Field → Option Nat
  | o, [] => some o
  | o, f :: fs => if f.offset = o then contig P (o + P.cellsOf f.type) fs else none
def shOf (P : Program) : Nat → TypeId → Option Sh
  | 0, _ => none
  | n + 1, t =>
    match P.underlying t with
    | some .bool => some .bool
    | some (.int k) => some (.int k)
    | some .string => some .str
    | some (.struct fs) => if contig P 0 fs.toList = some (P.cellsOf t) then (fs.toList.mapM fun f => shOf P n f.type).map .st else none
    | some (.array m e) => if m * P.cellsOf e = P.cellsOf t then (shOf P n e).map fun s => .st (List.replicate m s) else none
    | some (.slice e) => if P.cellsOf e = 0 then none else (shOf P n e).map (.sl (P.cellsOf e))
    | _ => none

/-! ### What has been opened so far -/
structure Opened (W : World) (ρ : Ren) (σ : List AObj) : Prop where
  inv : Inv ρ σ W
  rows : ∀ (a : Nat) (o : AObj), σ[a]? = some o → ∃ r, o = .arr r 0 false ∧ r.all refl1 = true
def stOf (σ : List AObj) : St := ⟨fun _ => none, fun a => match σ[a]? with | some (.arr r _ _) => some r | _ => none, fun _ => False, fun _ => none⟩
structure Le (ρ : Ren) (σ : List AObj) (ρ' : Ren) (σ' : List AObj) : Prop where
  le : ρ.le ρ'
  pre : ∃ l, σ' = σ ++ l
variable {ρ ρ' ρ'' : Ren} {σ σ' σ'' : List AObj}
theorem Le.refl : Le ρ σ ρ σ := ⟨Ren.le.refl _, [], by simp⟩
theorem Le.trans (h : Le ρ σ ρ' σ') (k : Le ρ' σ' ρ'' σ'') : Le ρ σ ρ'' σ'' := by
  obtain ⟨l, h1⟩ := h.pre
  obtain ⟨l', h2⟩ := k.pre
  exact ⟨h.le.trans k.le, l ++ l', by rw [h2, h1, List.append_assoc]⟩
theorem Le.R (h : Le ρ σ ρ' σ') {v : VV} {w : Value} (k : (stOf σ).R v w) : (stOf σ').R v w := by
  refine VR.mono (fun b a hb => absurd hb (by simp [stOf])) (fun a r hz => ?_) (fun _ hl => hl) k
  obtain ⟨l, rfl⟩ := h.pre
  simp only [stOf] at hz ⊢
  cases ha : σ[a]? with
  | none => rw [ha] at hz; cases hz
  | some o => rw [ha] at hz; rw [List.getElem?_append_left (List.getElem?_eq_some_iff.1 ha).1, ha]; exact hz
theorem Opened.rel (h : Opened W ρ σ) : Rel (stOf σ) [] σ where
  dom := fun _ _ => rfl
  inj := fun _ _ _ h => nomatch h
  obj := fun b c lo op h => by simp at h
  zrow := fun a r hz => by
    simp only [stOf] at hz
    split at hz
    · rename_i ha
      cases hz
      obtain ⟨r', h1, h2⟩ := h.rows _ _ ha
      cases h1
      exact ⟨_, _, ha, h2⟩
    · cases hz
  zi := fun _ _ _ _ h => nomatch h
  own := fun _ _ h => nomatch h
  litz := fun _ h => h.elim
theorem Opened.no (h : Opened W ρ σ) (β i : Nat) : ¬Openc ρ σ β i := by
  rintro ⟨b, r, lo, s, N, hb, _⟩
  obtain ⟨r', h1, _⟩ := h.rows _ _ hb
  cases h1
theorem Opened.empty : Opened W (fun _ => none) [] := ⟨inv_empty W, fun a o h => by simp at h⟩

/-- One row more. -/
theorem Opened.row (h : Opened W ρ σ) {β s : Nat} {c : Array Value} {e : TypeId} {fz : Nat × Nat} {r : List Value} (hβ : W.heap[β]? = some (.cells c e fz)) (hs : s + r.length ≤ c.size) (hr : ∀ (i : Nat) (x : Value), r[i]? = some x → ∃ y, c[s + i]? = some y ∧ V1 ρ x y) (hf : r.all refl1 = true) :
    Opened W (ρ.snoc σ.length (β, s, c.size)) (σ ++ [.arr r 0 false]) ∧ Le ρ σ (ρ.snoc σ.length (β, s, c.size)) (σ ++ [.arr r 0 false]) := by
  have hle : ρ.le (ρ.snoc σ.length (β, s, c.size)) := Ren.snoc_le (h.inv.new _ (Nat.le_refl _))
  have hrow : ∀ (a : Nat) (o : AObj), (σ ++ [.arr r 0 false])[a]? = some o → ∃ r', o = .arr r' 0 false ∧ r'.all refl1 = true := by
    intro a o ho
    rcases snoc_get ho with ⟨_, h1⟩ | ⟨_, rfl⟩
    · exact h.rows _ _ h1
    · exact ⟨r, rfl, hf⟩
  refine ⟨⟨⟨?_, ?_, ?_, ?_⟩, hrow⟩, hle, _, rfl⟩
  · intro b hb
    simp at hb
    unfold Ren.snoc
    rw [if_neg (by omega)]
    exact h.inv.new b (by omega)
  · intro b β' s' N hb
    unfold Ren.snoc at hb
    split at hb
    · cases hb; exact lt_of_get hβ
    · exact h.inv.blk _ _ _ _ hb
  · intro b r' lo op β' s' N hb hρ
    unfold Ren.snoc at hρ
    rcases snoc_get hb with ⟨h1, h2⟩ | ⟨rfl, h2⟩
    · rw [if_neg (by omega)] at hρ
      obtain ⟨c', e', fz', k1, k2, k3, k4, k5, k6⟩ := h.inv.arr _ _ _ _ _ _ _ h2 hρ
      exact ⟨c', e', fz', k1, k2, k3, k4, fun i x hx => let ⟨y, hy, hv⟩ := k5 i x hx; ⟨y, hy, hv.mono hle⟩, k6⟩
    · rw [if_pos rfl] at hρ
      cases hρ; cases h2
      exact ⟨c, e, fz, hβ, rfl, hs, Nat.zero_le _, fun i x hx => let ⟨y, hy, hv⟩ := hr i x hx; ⟨y, hy, hv.mono hle⟩, fun h => nomatch h⟩
  · intro b b' r1 lo1 r2 lo2 op2 β1 s1 N1 s2 N2 hne hb hb' _ _
    obtain ⟨_, h1, _⟩ := hrow _ _ hb
    cases h1

/-- The cells of a shape's value, opened. -/
def Told (W : World) (ρ : Ren) (σ : List AObj) (s : Sh) (cs : List Value) : Prop :=
  ∃ ρ' σ' v ws, Opened W ρ' σ' ∧ Le ρ σ ρ' σ' ∧ HasV s v ∧ All2 (stOf σ').R (cellsV v) ws ∧ AllL (V1 ρ') ws cs ∧ ws.all refl1 = true
theorem told_plain (ho : Opened W ρ σ) {s : Sh} {u : Value} (hp : plain1 u = true) (hr : refl1 u = true) (hv : HasV s (.p u)) : Told W ρ σ s [u] :=
  ⟨ρ, σ, .p u, [u], ho, .refl, hv, .cons (.p hp) .nil, AllL.cons (.base (.plain hp)) AllL.nil, by simp [hr]⟩

inductive HasE : List Sh → List VV → Prop
  | nil : HasE [] []
  | cons {s : Sh} {ss : List Sh} {v : VV} {vs : List VV} (h : HasV s v) (k : HasE ss vs) : HasE (s :: ss) (v :: vs)
theorem HasE.flat {ss : List Sh} {vs : List VV} (h : HasE ss vs) : HasL ss (flat vs) := by
  induction h with
  | nil => exact .nil
  | cons h k ih => rw [flat_cons]; exact .cons h ih
theorem HasE.rep {n : Nat} {e : Sh} {vs : List VV} (h : HasE (List.replicate n e) vs) : vs.length = n ∧ ∀ x ∈ vs, HasV e x := by
  generalize hl : List.replicate n e = l at h
  induction h generalizing n with
  | nil => cases n with
    | zero => simp
    | succ n => simp [List.replicate_succ] at hl
  | cons h k ih => cases n with
    | zero => simp at hl
    | succ n =>
      simp [List.replicate_succ] at hl
      obtain ⟨rfl, hl⟩ := hl
      obtain ⟨h1, h2⟩ := ih hl
      refine ⟨by simp [h1], fun x hx => ?_⟩
      rcases List.mem_cons.1 hx with rfl | hx
      · exact h
      · exact h2 x hx

theorem openEs : ∀ (chunks : List (List Value)) (shs : List Sh), chunks.length = shs.length → (∀ (i : Nat) c s, chunks[i]? = some c → shs[i]? = some s → ∀ ρ σ, Opened W ρ σ → Told W ρ σ s c) → ∀ (ρ : Ren) (σ : List AObj), Opened W ρ σ →
    ∃ ρ' σ' es ws, Opened W ρ' σ' ∧ Le ρ σ ρ' σ' ∧ HasE shs es ∧ All2 (stOf σ').R (flat es) ws ∧ AllL (V1 ρ') ws chunks.flatten ∧ ws.all refl1 = true ∧ ∀ (i : Nat) c x, chunks[i]? = some c → es[i]? = some x → (cellsV x).length = c.length
  | [], [], _, _, ρ, σ, ho => ⟨ρ, σ, [], [], ho, .refl, .nil, .nil, AllL.nil, rfl, fun i c x h => by simp at h⟩
  | [], _ :: _, h, _, _, _, _ => by simp at h
  | _ :: _, [], h, _, _, _, _ => by simp at h
  | c :: cs, s :: ss, hl, hT, ρ, σ, ho => by
    obtain ⟨ρ1, σ1, v, ws, o1, l1, h1, h2, h3, h4⟩ := hT 0 c s rfl rfl ρ σ ho
    obtain ⟨ρ2, σ2, es, us, o2, l2, k1, k2, k3, k4, k5⟩ := openEs cs ss (by simpa using hl) (fun i c' s' hc hs => hT (i + 1) c' s' (by simpa using hc) (by simpa using hs)) ρ1 σ1 o1
    refine ⟨ρ2, σ2, v :: es, ws ++ us, o2, l1.trans l2, .cons h1 k1, ?_, ?_, by simp [h4, k4], fun i c' x hc hx => ?_⟩
    · rw [flat_cons]; exact (h2.imp fun _ _ _ h => l2.R h).append k2
    · rw [List.flatten_cons]; exact (h3.imp fun _ _ h => h.mono l2.le).append k3
    · cases i with
      | zero => simp at hc hx; subst hc; subst hx; rw [h2.1, h3.1]
      | succ i => exact k5 i c' x (by simpa using hc) (by simpa using hx)

theorem contig_flat : ∀ (fs : List Field) (o e : Nat) (cs : List Value), contig P o fs = some e → cs.length = e → o ≤ e ∧ (fs.map fun f => (cs.drop f.offset).take (P.cellsOf f.type)).flatten = cs.drop o
  | [], o, e, cs, h, hl => by simp [contig] at h; subst h; simp [← hl]
  | f :: fs, o, e, cs, h, hl => by
    simp only [contig] at h
    split at h
    · rename_i hf
      subst hf
      obtain ⟨h1, h2⟩ := contig_flat fs _ e cs h hl
      refine ⟨by omega, ?_⟩
      rw [List.map_cons, List.flatten_cons, h2, ← List.drop_drop, List.take_append_drop]
    · cases h
theorem range_flat (k : Nat) (cs : List Value) : ∀ (m o : Nat), cs.length = (o + m) * k → (((List.range' o m).map fun i => (cs.drop (i * k)).take k)).flatten = cs.drop (o * k)
  | 0, o, hl => by simp at hl ⊢; omega
  | m + 1, o, hl => by
    rw [List.range'_succ, List.map_cons, List.flatten_cons, range_flat k cs m (o + 1) (by rw [hl]; congr 1; omega), Nat.add_mul, Nat.one_mul, ← List.drop_drop, List.take_append_drop]
end
end Go.Vm
