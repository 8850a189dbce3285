/-
  A law's call at all it may be given.
-/
import Derived.Test.YtkpamaplmjlagaaVOpen2
import Derived.HandedShaped
namespace Go.Vm
open Go Go.Ab
set_option linter.unusedVariables false
variable {P : Program} {H : Type} {enc : TypeId × Value → H} {W : World}

theorem cell_blk {r : Reach} {b0 : Nat} {u : TypeId} {v : Value} (h : Cell.okWide P W r b0 u v) (hE : ¬HasBlk W) : noSl v := by
  unfold noSl
  split
  · rename_i a len cap
    refine hE ?_
    unfold Cell.okWide Cell.ok at h
    split at h <;> first | (simp_all; done) | skip
    split at h <;> first | (simp_all; done) | skip
    rename_i hv
    cases hv
    obtain ⟨_, _, _, _, row, cells, hs, _⟩ := h
    unfold World.shape? at hs
    split at hs
    · rename_i hb; exact ⟨_, _, _, _, hb⟩
    · cases hs
  · trivial
theorem wide_blk {r : Reach} {b0 : Nat} {t : TypeId} {v : Value} (h : Value.okWide P W r b0 t v) : HasBlk W ∨ ∀ c ∈ v.cells.toList, noSl c := by
  by_cases hE : HasBlk W
  · exact .inl hE
  refine .inr fun c hc => ?_
  have row : ∀ cs : Array Value, Row.okWide P W r b0 t cs → c ∈ cs.toList → noSl c := by
    intro cs hr hm
    obtain ⟨ts, _, _, hr⟩ := hr
    obtain ⟨i, hi⟩ := List.getElem?_of_mem hm
    obtain ⟨u, _, hu⟩ := hr i c (by simpa using hi)
    exact cell_blk hu hE
  unfold Value.okWide at h
  split at h
  · obtain ⟨cs, rfl, _, hr⟩ := h; exact row cs hr hc
  · obtain ⟨cs, rfl, _, hr⟩ := h; exact row cs hr hc
  · cases v with
    | agg cs => exfalso; unfold Cell.okWide Cell.ok at h; split at h <;> simp_all
    | _ => simp [Value.cells] at hc; subst hc; exact cell_blk h hE

def isAgg (P : Program) (t : TypeId) : Bool := match P.underlying t with
  | some (.struct _) | some (.array _ _) => true
  | _ => false

theorem told_agg {n : Nat} {t : TypeId} {sh : Sh} (hs : shOf P n t = some sh) (ha : isAgg P t = true) : ∃ l, sh = .st l := by
  cases n with
  | zero => simp [shOf] at hs
  | succ n =>
    simp only [shOf] at hs
    unfold isAgg at ha
    split at hs <;> simp_all
    · obtain ⟨_, _, h⟩ := hs.2; exact ⟨_, h.symm⟩
    · obtain ⟨_, _, h⟩ := hs.2; exact ⟨_, h.symm⟩
theorem told_cell {n : Nat} {t : TypeId} {sh : Sh} (hs : shOf P n t = some sh) (ha : isAgg P t = false) {v : VV} (hv : HasV sh v) : isC v = true := by
  cases n with
  | zero => simp [shOf] at hs
  | succ n =>
    simp only [shOf] at hs
    unfold isAgg at ha
    split at hs <;> simp_all
    · subst hs; cases hv; rfl
    · subst hs; cases hv; rfl
    · subst hs; cases hv; rfl
    · obtain ⟨_, _, h⟩ := hs.2; subst h; cases hv <;> rfl
theorem wide_agg {r : Reach} {b0 : Nat} {t : TypeId} {v : Value} (h : Value.okWide P W r b0 t v) (ha : isAgg P t = true) : ∃ l : List Value, v = .agg l.toArray := by
  unfold Value.okWide at h
  unfold isAgg at ha
  split at h
  · obtain ⟨cs, rfl, _, _⟩ := h; exact ⟨cs.toList, by simp⟩
  · obtain ⟨cs, rfl, _, _⟩ := h; exact ⟨cs.toList, by simp⟩
  · simp_all
theorem wide_cell {r : Reach} {b0 : Nat} {t : TypeId} {v : Value} {n : Nat} {sh : Sh} (hs : shOf P n t = some sh) (h : Value.okWide P W r b0 t v) (ha : isAgg P t = false) : v.cells = #[v] := by
  cases v with
  | agg cs =>
    exfalso
    cases n with
    | zero => simp [shOf] at hs
    | succ n =>
      simp only [shOf] at hs
      unfold isAgg at ha
      unfold Value.okWide Cell.okWide Cell.ok at h
      split at hs <;> simp_all
  | _ => rfl

variable {ρ : Ren} {σ : List AObj}
theorem openArg {r : Reach} {b0 : Nat} {t : TypeId} {v : Value} {n : Nat} {sh : Sh} {d : DataW H} {ps : List MemPlace} (hs : shOf P n t = some sh)
    (hval : Value.okWide P W r b0 t v) (hd : DataW.Trod enc P W 0 (fun _ => true) true t v d ps) (ho : Opened W ρ σ) :
    ∃ ρ' σ' x w, Opened W ρ' σ' ∧ Le ρ σ ρ' σ' ∧ HasV sh x ∧ (stOf σ').R x w ∧ V ρ' w v := by
  obtain ⟨fuel, h⟩ := hd
  obtain ⟨ρ', σ', x, ws, o1, l1, h1, h2, h3, h4⟩ := openT fuel n t sh _ _ ρ σ (wide_blk hval) hs h ho
  cases ha : isAgg P t with
  | true =>
    obtain ⟨l, rfl⟩ := wide_agg hval ha
    obtain ⟨l', rfl⟩ := told_agg hs ha
    cases h1 with
    | st h1 =>
      exact ⟨ρ', σ', _, .agg ws.toArray, o1, l1, .st h1, VR.agg_iff.2 ⟨ws.toArray, rfl, by simpa [cellsV] using h2⟩, .val (.agg (by rw [show (Value.agg l.toArray).cells.toList = l from rfl] at h3; simpa using h3))⟩
  | false =>
    have hc := told_cell hs ha h1
    have hv := wide_cell hs hval ha
    rw [VR.of_cell hc] at h2
    obtain ⟨w, ws', rfl, g1, g2⟩ := h2.cons_inv
    rw [g2.nil_inv] at h3
    rw [hv] at h3
    exact ⟨ρ', σ', x, w, o1, l1, h1, g1, .val (.cell (h3.cons_inv.1))⟩

theorem openArgs {r : Reach} {b0 n : Nat} : ∀ (ts : List TypeId) (shs : List Sh) (vs : List Value) (ds : List (DataW H)) (ps : List MemPlace), ts.mapM (shOf P n) = some shs →
    DataW.TrodAll enc P W 0 (fun _ => true) true ts vs ds ps → (∀ (j : Nat) t v, ts[j]? = some t → vs[j]? = some v → Value.okWide P W r b0 t v) → ∀ (ρ : Ren) (σ : List AObj), Opened W ρ σ →
    ∃ ρ' σ' xs ws, Opened W ρ' σ' ∧ Le ρ σ ρ' σ' ∧ HasE shs xs ∧ All2 (stOf σ').R xs ws ∧ AllL (V ρ') ws vs
  | [], shs, [], [], ps, hs, h, hval, ρ, σ, ho => by
    simp at hs; subst hs
    exact ⟨ρ, σ, [], [], ho, .refl, .nil, .nil, AllL.nil⟩
  | t :: ts, shs, v :: vs, d :: ds, ps, hs, h, hval, ρ, σ, ho => by
    rw [List.mapM_cons] at hs
    simp only [Option.bind_eq_bind, Option.bind_eq_some_iff, Option.pure_def, Option.some.injEq] at hs
    obtain ⟨sh, hs1, shs', hs2, rfl⟩ := hs
    obtain ⟨p, q, h1, h2, rfl⟩ := h
    obtain ⟨ρ1, σ1, x, w, o1, l1, g1, g2, g3⟩ := openArg hs1 (hval 0 t v rfl rfl) h1 ho
    obtain ⟨ρ2, σ2, xs, ws, o2, l2, k1, k2, k3⟩ := openArgs ts shs' vs ds q hs2 h2 (fun j t v ht hv => hval (j + 1) t v (by simpa using ht) (by simpa using hv)) ρ1 σ1 o1
    exact ⟨ρ2, σ2, x :: xs, w :: ws, o2, l1.trans l2, .cons g1 k1, .cons (l2.R g2) k2, AllL.cons (g3.mono l2.le) k3⟩
  | [], _, [], _ :: _, _, _, h, _, _, _, _ => by cases h
  | [], _, _ :: _, _, _, _, h, _, _, _, _ => by cases h
  | _ :: _, _, [], _, _, _, h, _, _, _, _ => by cases h
  | _ :: _, _, _ :: _, [], _, _, h, _, _, _, _ => by cases h

/-- **A law that is true at all values of its shapes is true at all it may be given.** -/
theorem law_calls {X : FuncId → Option (List VV → List VObj → Option VOut)} {X' : FuncId → Option (List Value → List AObj → Option Out)} (hX : ∀ f, match X f, X' f with | none, none => True | some g, some g' => StandV g g' | _, _ => False) {HH : FuncId → Nat → List Nat}
    (hN : NamesOk P) (hX' : ∀ f g, X' f = some g → StandOk P f g) {f : FuncId} {ts : List TypeId} {shs : List Sh} {n : Nat} (hs : ts.mapM (shOf P n) = some shs)
    (hlaw : ∀ xs, HasE shs xs → ∃ vs, callLV P X HH f xs [] = some (VB true, vs))
    {args : Array Value} {ds : List (DataW H)} {ps : List MemPlace} {r : Reach} {b0 : Nat} (hd : DataW.TrodAll enc P W 0 (fun _ => true) true ts args.toList ds ps) (hval : ∀ (j : Nat) t v, ts[j]? = some t → args[j]? = some v → Value.okWide P W r b0 t v) :
    Calls P f args W fun e W' => e = .returned (.bool true) ∧ Go.RowKit.Below W.heap.size W W' := by
  obtain ⟨ρ', σ', xs, ws, o1, l1, k1, k2, k3⟩ := openArgs ts shs args.toList ds ps hs hd (fun j t v ht hv => hval j t v ht (by simpa using hv)) _ _ Opened.empty
  obtain ⟨vs, hv⟩ := hlaw xs k1
  exact callV_calls hX hN hX' hv o1.rel (fun _ _ h => nomatch h) k2 o1.inv o1.no k3
end Go.Vm
