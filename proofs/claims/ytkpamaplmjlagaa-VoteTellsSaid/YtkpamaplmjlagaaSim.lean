/-
  The abstract machine's runs are runs of the model.
-/
import Derived.Test.YtkpamaplmjlagaaOps6
namespace Go.Ab
open Go

/-- Of an elder object, unless it is told: each cell is an elder one, or leads to elder objects alone. -/
def Pres (σ0 : List AObj) (s : S) : Prop :=
  σ0.length ≤ s.σ.length ∧ ∀ i, i < σ0.length → i ∉ s.ev → ∀ r lo op, s.σ[i]? = some (.arr r lo op) → ∃ r0 lo0 op0, σ0[i]? = some (.arr r0 lo0 op0) ∧ ∀ x ∈ r, x ∈ r0 ∨ ∀ j ∈ refs1 x, j < i

theorem Pres.refl (σ : List AObj) : Pres σ ⟨σ, []⟩ := ⟨Nat.le_refl _, fun _ _ _ r lo op h => ⟨r, lo, op, h, fun _ hx => .inl hx⟩⟩
theorem Pres.snoc {σ0 : List AObj} {s : S} (h : Pres σ0 s) (o : AObj) : Pres σ0 ⟨s.σ ++ [o], s.ev⟩ := by
  refine ⟨by simp; have := h.1; omega, fun i hi he r lo op hr => h.2 i hi he r lo op ?_⟩
  have := h.1
  rcases snoc_get hr with ⟨_, h1⟩ | ⟨h1, _⟩
  · exact h1
  · omega
theorem Pres.seal {σ0 : List AObj} {s : S} (h : Pres σ0 s) {b lo : Nat} {op op' : Bool} {r : List Value} (hb : s.σ[b]? = some (.arr r lo op)) : Pres σ0 ⟨s.σ.set b (.arr r lo op'), s.ev⟩ := by
  refine ⟨by simpa using h.1, fun i hi he r1 lo1 op1 hr => ?_⟩
  rcases set_get hr with ⟨rfl, h1⟩ | ⟨_, h1⟩
  · cases h1; exact h.2 i hi he _ _ _ hb
  · exact h.2 i hi he _ _ _ h1
theorem Pres.trans {σ0 : List AObj} {s s' : S} (h : Pres σ0 s) (k : Pres s.σ s') : Pres σ0 ⟨s'.σ, s.ev ++ s'.ev⟩ := by
  refine ⟨Nat.le_trans h.1 k.1, fun i hi he r lo op hr => ?_⟩
  simp only [List.mem_append, not_or] at he
  obtain ⟨r1, lo1, op1, h1, h2⟩ := k.2 i (Nat.lt_of_lt_of_le hi h.1) he.2 r lo op hr
  obtain ⟨r0, lo0, op0, g1, g2⟩ := h.2 i hi he.1 r1 lo1 op1 h1
  refine ⟨r0, lo0, op0, g1, fun x hx => ?_⟩
  rcases h2 x hx with h3 | h3
  · exact g2 x h3
  · exact .inr h3
theorem mem_setCells {x : Value} : ∀ {vs c : List Value} {o : Nat}, x ∈ setCells c o vs → x ∈ c ∨ x ∈ vs
  | [], c, o, h => .inl h
  | v :: vs, c, o, h => by
    simp only [setCells] at h
    rcases mem_setCells h with h | h
    · rcases List.mem_or_eq_of_mem_set h with h | h
      · exact .inl h
      · exact .inr (by simp [h])
    · exact .inr (by simp [h])
theorem Pres.stn {σ0 : List AObj} {s s' : S} (h : Pres σ0 s) {vs : List Value} {p : Value} (hs : stn σ0.length s vs p = some s') : Pres σ0 s' := by
  unfold Ab.stn at hs
  split at hs
  · rename_i b o
    split at hs
    · rename_i c lo hb
      split at hs
      · cases hs
        refine ⟨by simpa using h.1, fun i hi he r1 lo1 op1 hr => ?_⟩
        simp only [evUpd] at he
        rcases set_get hr with ⟨rfl, h1⟩ | ⟨hne, h1⟩
        · cases h1
          split at he
          · rename_i hc
            simp only [Bool.or_eq_true, decide_eq_true_eq] at hc
            obtain ⟨r0, lo0, op0, g1, g2⟩ := h.2 i hi he _ _ _ hb
            refine ⟨r0, lo0, op0, g1, fun x hx => ?_⟩
            rcases mem_setCells hx with hx | hx
            · exact g2 x hx
            · right
              intro j hj
              have hall := hc.resolve_left (by omega)
              have := List.all_eq_true.1 hall j (List.mem_flatMap.2 ⟨x, hx, hj⟩)
              simpa using this
          · simp at he
        · refine h.2 i hi ?_ _ _ _ h1
          split at he
          · exact he
          · simp at he; exact he.1
      · cases hs
    · cases hs
  · cases hs

theorem Pres.boxc {σ0 : List AObj} {s s' : S} (h : Pres σ0 s) {cells : List Value} {p : Value} (hs : boxc s cells = some (p, s')) : Pres σ0 s' := by
  unfold Ab.boxc at hs
  split at hs
  · cases hs; exact h.snoc _
  · cases hs

section
variable {P : Program}

theorem Pres.buildSlice {σ0 : List AObj} {s s' : S} (h : Pres σ0 s) {t : TypeId} {len : Nat} {ps : List (Nat × Value)} {v : Value} (hs : pBuildSlice P t len ps s = some (v, s')) : Pres σ0 s' := by
  unfold pBuildSlice at hs
  simp only [Option.bind_eq_some_iff, bldSl] at hs
  obtain ⟨_, _, _, _, _, _, hs⟩ := hs
  split at hs
  · simp only [Option.bind_eq_some_iff] at hs
    obtain ⟨_, _, hs⟩ := hs
    cases hs; exact h.snoc _
  · cases hs
theorem Pres.makeSlice {σ0 : List AObj} {s s' : S} (h : Pres σ0 s) {t : TypeId} {l c v : Value} (hs : pMakeSlice P t l c s = some (v, s')) : Pres σ0 s' := by
  unfold pMakeSlice at hs
  simp only [Option.bind_eq_some_iff, mkSl] at hs
  obtain ⟨_, _, _, _, _, _, _, _, hs⟩ := hs
  split at hs
  · split at hs
    · cases hs; exact h.snoc _
    · cases hs
  · cases hs
theorem Pres.append {σ0 : List AObj} {s s' : S} (h : Pres σ0 s) {ts : Array TypeId} {x y v : Value} (hs : pAppend P ts x y s = some (v, s')) : Pres σ0 s' := by
  unfold pAppend at hs
  split at hs
  · have : ∃ k by_, appendA k by_ x y s = some (v, s') := by
      split at hs
      · simp only [Option.bind_eq_some_iff] at hs
        obtain ⟨_, _, _, _, _, _, _, _, hs⟩ := hs
        split at hs
        · exact ⟨_, _, hs⟩
        · cases hs
      · simp only [Option.bind_eq_some_iff] at hs
        obtain ⟨_, _, _, _, _, _, _, _, hs⟩ := hs
        split at hs
        · exact ⟨_, _, hs⟩
        · cases hs
      · cases hs
    obtain ⟨k, by_, hs⟩ := this
    unfold appendA at hs
    simp only [Option.bind_eq_some_iff] at hs
    obtain ⟨_, _, _, _, hs⟩ := hs
    split at hs
    · split at hs
      · cases hs; exact h
      · split at hs
        · cases hs; exact h.snoc _
        · cases hs
    · split at hs
      · split at hs
        · rename_i hrow
          split at hs
          · split at hs
            · cases hs; exact h
            · split at hs
              · cases hs; exact h.snoc _
              · split at hs
                · cases hs; exact (h.seal hrow).snoc _
                · cases hs
          · cases hs
        · cases hs
      · cases hs
    · cases hs
  · cases hs
theorem Pres.copy {σ0 : List AObj} {s s' : S} (h : Pres σ0 s) {ts : Array TypeId} {x y v : Value} (hs : pCopy P σ0.length ts x y s = some (v, s')) : Pres σ0 s' := by
  unfold pCopy at hs
  split at hs
  · simp only [Option.bind_eq_some_iff] at hs
    obtain ⟨_, _, _, _, hs⟩ := hs
    unfold copyA at hs
    simp only [Option.bind_eq_some_iff] at hs
    obtain ⟨_, _, _, _, hs⟩ := hs
    split at hs
    · cases hs; exact h
    · split at hs
      · split at hs
        · cases hs; exact h
        · simp only [Option.map_eq_some_iff] at hs
          obtain ⟨_, h1, h2⟩ := hs
          cases h2
          exact h.stn h1
      · cases hs
    · cases hs
  · cases hs

/-- Every function with a body may be entered; and orders that are left open are any. -/
def NamesOk (P : Program) : Prop := (∀ (f : Nat) fn, P.funcs[f]? = some fn → (fn.name == "runtime.NumGoroutine") = false) ∧ P.follows .mixedOrders = true

def OracleOk (P : Program) (C : Oracle) : Prop := ∀ f args σ v s', C f args σ = some (v, s') → ∀ ρ w args', Inv ρ σ w → AllL (V ρ) args args' →
  (∃ fn, P.funcs[f]? = some fn ∧ fn.body.isSome) ∧ Calls P f args'.toArray w (fun e w' => ∃ v' ρ', e = .returned v' ∧ Step ρ σ w ρ' s'.σ w' ∧ V ρ' v v') ∧ Pres σ s'

def FrOk (ρ : Ren) (fr : Fr) (a : Act) : Prop := ∀ t v, lk t fr = some v → V ρ v (a.tmps.getD t undef)

theorem opnd_sim {ρ : Ren} {fr : Fr} {a : Act} (hF : FrOk ρ fr a) {x : Operand} {v : Value} (h : opnd fr x = some v) : V ρ v (a.eval x) := by
  cases x with
  | tmp t => exact hF t v h
  | const u =>
    simp only [opnd] at h
    split at h
    · cases h; exact V_of_plain ‹_›
    · cases h
  | global g => simp [opnd] at h
  | func f => simp only [opnd, Option.some.injEq] at h; subst h; exact .val (.cell (.func AllL.nil AllL.nil))
theorem opnds_sim {ρ : Ren} {fr : Fr} {a : Act} (hF : FrOk ρ fr a) : ∀ {xs : List Operand} {vs : List Value}, opnds fr xs = some vs → AllL (V ρ) vs (xs.map a.eval)
  | [], vs, h => by simp only [opnds, Option.some.injEq] at h; subst h; exact AllL.nil
  | x :: xs, vs, h => by
    simp only [opnds, Option.bind_eq_some_iff, Option.some.injEq] at h
    obtain ⟨v, h1, r, h2, rfl⟩ := h
    exact AllL.cons (opnd_sim hF h1) (opnds_sim hF h2)
theorem opndP_sim {ρ : Ren} {fr : Fr} {a : Act} (hF : FrOk ρ fr a) : ∀ {xs : List (Nat × Operand)} {vs : List (Nat × Value)}, opndP fr xs = some vs → AllP (V ρ) vs (xs.map fun x => (x.1, a.eval x.2))
  | [], vs, h => by simp only [opndP, Option.some.injEq] at h; subst h; exact ⟨rfl, AllL.nil⟩
  | (i, x) :: xs, vs, h => by
    simp only [opndP, Option.bind_eq_some_iff, Option.some.injEq] at h
    obtain ⟨v, h1, r, h2, rfl⟩ := h
    have ih := opndP_sim hF h2
    exact ⟨by simp [ih.1], AllL.cons (opnd_sim hF h1) ih.2⟩
theorem opndO_sim {ρ : Ren} {fr : Fr} {a : Act} (hF : FrOk ρ fr a) {x : Option Operand} {v : Option Value} (h : opndO fr x = some v) : VO ρ v (x.map a.eval) := by
  cases x with
  | none => simp only [opndO, Option.some.injEq] at h; subst h; trivial
  | some x =>
    simp only [opndO, Option.map_eq_some_iff] at h
    obtain ⟨u, h1, rfl⟩ := h
    exact opnd_sim hF h1

theorem wp_value {o : Oper} {a : Act} {w w' : World} {next : Act → World → Prop} {Q : Exit → Act → World → Prop} {v : Value} (h : (execOp a.eval o).run P w = .ok (.value v) w') (hn : next (a.put o.dst v) w') : o.wp P a w next Q := by
  unfold Oper.wp; rw [h]; exact hn
theorem wp_skip' {o : Oper} {a : Act} {w w' : World} {next : Act → World → Prop} {Q : Exit → Act → World → Prop} (h : (execOp a.eval o).run P w = .ok .skip w') (hn : next (a.put o.dst undef) w') : o.wp P a w next Q := by
  unfold Oper.wp; rw [h]; exact hn

theorem run_v {s : Sem Value} {w w' : World} {v : Value} (h : s.run P w = .ok v w') : (do pure (.value (← s)) : Sem Next).run P w = .ok (.value v) w' := by
  rw [Sem.run_bind, h]; rfl

theorem evalOp_sim {C : Oracle} (hC : OracleOk P C) (hN : NamesOk P) {σ0 : List AObj} {o : Oper} {fr : Fr} {s : S} {k : K1} {out : Out} {a : Act} {w : World} {ρ : Ren} {next : Act → World → Prop} {Q : Exit → Act → World → Prop}
    (h : evalOp P C σ0.length o fr s k = some out) (hI : Inv ρ s.σ w) (hP : Pres σ0 s) (hF : FrOk ρ fr a)
    (hk : ∀ v s' ρ' v' w', k v s' = some out → Step ρ s.σ w ρ' s'.σ w' → Pres σ0 s' → V ρ' v v' → next (a.put o.dst v') w') : o.wp P a w next Q := by
  unfold evalOp at h
  split at h
  all_goals try (cases h; done)
  all_goals rename_i ho
  · -- move
    simp only [Option.bind_eq_some_iff] at h
    obtain ⟨v, h1, h⟩ := h
    refine wp_value (v := a.eval _) (w' := w) (by unfold execOp; rw [ho]; rfl) (hk _ _ _ _ _ h (Step.refl hI) hP (opnd_sim hF h1))
  · -- assign
    simp only [Option.bind_eq_some_iff] at h
    obtain ⟨v, h1, h⟩ := h
    refine wp_value (v := a.eval _) (w' := w) (by unfold execOp; rw [ho]; rfl) (hk _ _ _ _ _ h (Step.refl hI) hP (opnd_sim hF h1))
  · -- pick
    simp only [Option.bind_eq_some_iff] at h
    obtain ⟨c, h1, v, h2, h⟩ := h
    unfold pPick at h2
    split at h2
    · rename_i b
      have hc := bool_inv (opnd_sim hF h1)
      cases b with
      | false =>
        simp only [Bool.false_eq_true, if_false] at h2
        refine wp_value (w' := w) (by unfold execOp; rw [ho]; simp [hc, asBool]) (hk _ _ _ _ _ h (Step.refl hI) hP (opnd_sim hF h2))
      | true =>
        simp only [if_true] at h2
        refine wp_value (w' := w) (by unfold execOp; rw [ho]; simp [hc, asBool]) (hk _ _ _ _ _ h (Step.refl hI) hP (opnd_sim hF h2))
    · cases h2
  · -- alloc
    simp only [Option.bind_eq_some_iff] at h
    obtain ⟨z, h1, ⟨p, s'⟩, h2, h⟩ := h
    rename_i t
    obtain ⟨hz1, hz2⟩ := run_zeroValue (w := w) h1
    obtain ⟨ρ', g1, g2⟩ := boxc_sim hI h2 t (zero_cells hz2)
    refine wp_value (by unfold execOp; rw [ho]; exact run_v (by unfold Instr.alloc; simp only [Sem.run_bind, hz1, Result.andThen_ok, newVar, run_newRow, Sem.run_pure])) (hk _ _ _ _ _ h g1 (hP.boxc h2) g2)
  · -- box
    simp only [Option.bind_eq_some_iff] at h
    obtain ⟨z, h1, ⟨p, s'⟩, h2, h⟩ := h
    rename_i t x
    have hcell : z.cells.toList.all isCell = true := by
      unfold boxc at h2
      split at h2
      · assumption
      · cases h2
    have hv := V2_cells (V2_of_isCell (opnd_sim hF h1) hcell)
    obtain ⟨ρ', g1, g2⟩ := boxc_sim hI h2 t hv
    refine wp_value (by unfold execOp; rw [ho]; exact run_v (by unfold Instr.box; simp only [Sem.run_bind, newVar, run_newRow, Result.andThen_ok, Sem.run_pure])) (hk _ _ _ _ _ h g1 (hP.boxc h2) g2)
  · -- build
    simp only [Option.bind_eq_some_iff] at h
    obtain ⟨ps, h1, v, h2, h⟩ := h
    rename_i t parts
    obtain ⟨v', g1, g2⟩ := build_sim (w := w) (parts' := parts.map fun (i, x) => (i, a.eval x)) h2 (by simpa using opndP_sim hF h1)
    exact wp_value (by unfold execOp; rw [ho]; exact run_v g1) (hk _ _ _ _ _ h (Step.refl hI) hP g2)
  · -- buildSlice
    simp only [Option.bind_eq_some_iff] at h
    obtain ⟨ps, h1, ⟨v, s'⟩, h2, h⟩ := h
    rename_i t len parts
    obtain ⟨v', w', ρ', g1, g2, g3⟩ := buildSlice_sim hI (parts' := parts.map fun (i, x) => (i, a.eval x)) h2 (by simpa using opndP_sim hF h1)
    exact wp_value (by unfold execOp; rw [ho]; exact run_v g1) (hk _ _ _ _ _ h g2 (hP.buildSlice h2) g3)
  · -- load
    simp only [Option.bind_eq_some_iff] at h
    obtain ⟨p, h1, v, h2, h⟩ := h
    obtain ⟨v', g1, g2⟩ := load_sim hI h2 (opnd_sim hF h1)
    exact wp_value (by unfold execOp; rw [ho]; exact run_v g1) (hk _ _ _ _ _ h (Step.refl hI) hP g2)
  · -- store
    simp only [Option.bind_eq_some_iff] at h
    obtain ⟨p, h1, v, h2, s', h3, h⟩ := h
    obtain ⟨w', g1, g2⟩ := store_sim hI h3 (opnd_sim hF h1) (opnd_sim hF h2)
    have hP' : Pres σ0 s' := by
      unfold pStore at h3
      simp only [Option.bind_eq_some_iff, stv] at h3
      obtain ⟨_, _, h3⟩ := h3
      split at h3
      · exact hP.stn h3
      · cases h3
    exact wp_skip' (by unfold execOp; rw [ho]; simp only [Sem.run_bind, g1, Result.andThen_ok, Sem.run_pure]) (hk _ _ _ _ _ h g2 hP' V_undef)
  · -- nilCheck
    simp only [Option.bind_eq_some_iff] at h
    obtain ⟨v, h1, u, h2, h⟩ := h
    have hv := opnd_sim hF h1
    obtain ⟨rfl, n1, n2, n3, n4⟩ := nilCheck_inv h2 hv
    refine wp_value (v := a.eval _) (w' := w) ?_ (hk _ _ _ _ _ h (Step.refl hI) hP hv)
    unfold execOp; rw [ho]
    simp only
    rfl
  · -- binOp
    simp only [Option.bind_eq_some_iff] at h
    obtain ⟨x, h1, y, h2, v, h3, h⟩ := h
    obtain ⟨g1, g2⟩ := bin_sim (w := w) h3 (opnd_sim hF h1) (opnd_sim hF h2)
    exact wp_value (by unfold execOp; rw [ho]; exact run_v g1) (hk _ _ _ _ _ h (Step.refl hI) hP (V_of_plain g2))
  · -- unOp
    simp only [Option.bind_eq_some_iff] at h
    obtain ⟨x, h1, v, h3, h⟩ := h
    obtain ⟨g1, g2⟩ := un_sim (w := w) h3 (opnd_sim hF h1)
    exact wp_value (by unfold execOp; rw [ho]; exact run_v g1) (hk _ _ _ _ _ h (Step.refl hI) hP (V_of_plain g2))
  · -- convert
    simp only [Option.bind_eq_some_iff] at h
    obtain ⟨x, h1, v, h3, h⟩ := h
    obtain ⟨g1, g2⟩ := conv_sim (w := w) h3 (opnd_sim hF h1)
    exact wp_value (by unfold execOp; rw [ho]; exact run_v g1) (hk _ _ _ _ _ h (Step.refl hI) hP (V_of_plain g2))
  · -- makeFunc
    simp only [Option.bind_eq_some_iff] at h
    obtain ⟨x, h1, y, h2, v, h3, h⟩ := h
    unfold mkFn at h3
    split at h3
    · rename_i fn first captured hs
      cases h3
      have hx := opnds_sim hF h1
      have hy := opnds_sim hF h2
      have e1 : (List.map a.eval first.toList).toArray = first.map a.eval := by apply Array.ext'; simp
      have e2 : (List.map a.eval captured.toList).toArray = captured.map a.eval := by apply Array.ext'; simp
      have hV := makeFunc_V (fn := fn) hx hy hs
      rw [e1, e2] at hV
      exact wp_value (by unfold execOp; rw [ho]; rfl) (hk _ _ _ _ _ h (Step.refl hI) hP hV)
    · cases h3
  · -- makeSlice
    simp only [Option.bind_eq_some_iff] at h
    obtain ⟨x, h1, y, h2, ⟨v, s'⟩, h3, h⟩ := h
    obtain ⟨v', w', ρ', g1, g2, g3⟩ := makeSlice_sim hI h3 (opnd_sim hF h1) (opnd_sim hF h2)
    exact wp_value (by unfold execOp; rw [ho]; exact run_v g1) (hk _ _ _ _ _ h g2 (hP.makeSlice h3) g3)
  · -- slice
    simp only [Option.bind_eq_some_iff] at h
    obtain ⟨x, h1, lo, h2, hi, h3, mx, h4, v, h5, h⟩ := h
    obtain ⟨v', g1, g2⟩ := slice_sim hI h5 (opnd_sim hF h1) (opndO_sim hF h2) (opndO_sim hF h3) (opndO_sim hF h4)
    exact wp_value (by unfold execOp; rw [ho]; exact run_v g1) (hk _ _ _ _ _ h (Step.refl hI) hP g2)
  · -- fieldAddr
    simp only [Option.bind_eq_some_iff] at h
    obtain ⟨p, h1, v, h2, h⟩ := h
    obtain ⟨v', g1, g2⟩ := fieldAddr_sim (w := w) h2 (opnd_sim hF h1)
    exact wp_value (by unfold execOp; rw [ho]; exact run_v g1) (hk _ _ _ _ _ h (Step.refl hI) hP g2)
  · -- field
    simp only [Option.bind_eq_some_iff] at h
    obtain ⟨p, h1, v, h2, h⟩ := h
    obtain ⟨v', g1, g2⟩ := field_sim (w := w) h2 (opnd_sim hF h1)
    exact wp_value (by unfold execOp; rw [ho]; exact run_v g1) (hk _ _ _ _ _ h (Step.refl hI) hP g2)
  · -- indexAddr
    simp only [Option.bind_eq_some_iff] at h
    obtain ⟨p, h1, i, h2, v, h3, h⟩ := h
    obtain ⟨v', g1, g2⟩ := indexAddr_sim (w := w) h3 (opnd_sim hF h1) (opnd_sim hF h2)
    exact wp_value (by unfold execOp; rw [ho]; exact run_v g1) (hk _ _ _ _ _ h (Step.refl hI) hP g2)
  · -- index
    simp only [Option.bind_eq_some_iff] at h
    obtain ⟨p, h1, i, h2, v, h3, h⟩ := h
    obtain ⟨v', g1, g2⟩ := index_sim (w := w) h3 (opnd_sim hF h1) (opnd_sim hF h2)
    exact wp_value (by unfold execOp; rw [ho]; exact run_v g1) (hk _ _ _ _ _ h (Step.refl hI) hP g2)
  · -- extract
    simp only [Option.bind_eq_some_iff] at h
    obtain ⟨p, h1, v, h2, h⟩ := h
    obtain ⟨v', g1, g2⟩ := extract_sim (w := w) h2 (opnd_sim hF h1)
    exact wp_value (by unfold execOp; rw [ho]; exact run_v g1) (hk _ _ _ _ _ h (Step.refl hI) hP g2)
  · -- call
    rename_i c
    simp only [Option.bind_eq_some_iff] at h
    obtain ⟨args, h1, h⟩ := h
    have hargs := opnds_sim hF h1
    have eargs : (List.map a.eval c.args.toList) = (c.args.map a.eval).toList := by simp
    split at h
    · -- a value
      rename_i f hcal
      simp only [Option.bind_eq_some_iff] at h
      obtain ⟨fv, h2, r, h3, h⟩ := h
      unfold callV at h3
      split at h3
      · rename_i kf first captured
        simp only [callF, Option.map_eq_some_iff] at h3
        obtain ⟨⟨v, s'⟩, h4, h5⟩ := h3
        subst h5
        obtain ⟨first', captured', hf, hfa, hfb⟩ := func_inv (opnd_sim hF h2)
        obtain ⟨⟨fn, hfn, hbody⟩, hcalls, hpres⟩ := hC _ _ _ _ _ h4 ρ w (first'.toList ++ (c.args.map a.eval).toList ++ captured'.toList) hI (by
          rw [← eargs]; exact (hfa.append hargs).append hfb)
        have e3 : (first'.toList ++ (c.args.map a.eval).toList ++ captured'.toList).toArray = first' ++ c.args.map a.eval ++ captured' := by apply Array.ext'; simp
        rw [e3] at hcalls
        have hbn : fn.body.isNone = false := by cases hb : fn.body <;> simp [hb] at hbody ⊢
        have hrun : (execOp a.eval o).run P w = .ok (.enter kf (first' ++ c.args.map a.eval ++ captured')) w := by
          unfold execOp; rw [ho]
          simp only [resolve, hcal, hf, Deferred.ofValue]
          show (invoke (.fn (.func kf) captured') (first' ++ c.args.map a.eval)).run P w = _
          simp only [invoke, callFunc, Sem.run_bind, run_program, Result.andThen_ok, hfn, hN.1 _ _ hfn, hbn, Bool.false_eq_true, if_false, Sem.run_pure]
        unfold Oper.wp
        rw [hrun]
        refine hcalls.mono fun e w' ⟨v', ρ', he, hst, hv⟩ => ?_
        subst he
        exact hk _ _ _ _ _ h hst (hP.trans hpres) hv
      · cases h3
    all_goals rename_i hcal
    · -- len
      simp only [Option.bind_eq_some_iff] at h
      obtain ⟨v, h2, h⟩ := h
      split at h2
      · rename_i x
        obtain ⟨y, b, hb⟩ := hargs.left
        have hb0 : b = [] := by
          have := hargs.1; rw [hb] at this; simp only [List.length_cons, List.length_nil] at this; exact List.eq_nil_of_length_eq_zero (by omega)
        subst hb0
        have hx : V ρ x y := by rw [hb] at hargs; exact hargs.cons_inv.1
        have hca : c.args.map a.eval = #[y] := by apply Array.ext'; rw [← eargs, hb]
        obtain ⟨g1, g2⟩ := len_sim (w := w) (ty := o.type) h2 hx
        refine wp_value ?_ (hk _ _ _ _ _ h (Step.refl hI) hP (V_of_plain g2))
        unfold execOp; rw [ho]
        simp only [resolve, hcal, hca]
        exact run_v g1
      · cases h2
    · -- append
      simp only [Option.bind_eq_some_iff] at h
      obtain ⟨⟨v, s'⟩, h2, h⟩ := h
      split at h2
      · rename_i x x2
        obtain ⟨y, b, hb⟩ := hargs.left
        rw [hb] at hargs
        obtain ⟨hx, hrest⟩ := hargs.cons_inv
        obtain ⟨y2, b2, rfl⟩ := hrest.left
        obtain ⟨hx2, hnil⟩ := hrest.cons_inv
        have hb0 : b2 = [] := by
          have := hnil.1; simp only [List.length_nil] at this; exact List.eq_nil_of_length_eq_zero this.symm
        subst hb0
        have hca : c.args.map a.eval = #[y, y2] := by apply Array.ext'; rw [← eargs, hb]
        obtain ⟨v', w', ρ', g1, g2, g3⟩ := append_sim (ty := o.type) hI h2 hx hx2
        refine wp_value ?_ (hk _ _ _ _ _ h g2 (hP.append h2) g3)
        unfold execOp; rw [ho]
        simp only [resolve, hcal, hca]
        exact run_v g1
      · cases h2
    · -- copy
      simp only [Option.bind_eq_some_iff] at h
      obtain ⟨⟨v, s'⟩, h2, h⟩ := h
      split at h2
      · rename_i x x2
        obtain ⟨y, b, hb⟩ := hargs.left
        rw [hb] at hargs
        obtain ⟨hx, hrest⟩ := hargs.cons_inv
        obtain ⟨y2, b2, rfl⟩ := hrest.left
        obtain ⟨hx2, hnil⟩ := hrest.cons_inv
        have hb0 : b2 = [] := by
          have := hnil.1; simp only [List.length_nil] at this; exact List.eq_nil_of_length_eq_zero this.symm
        subst hb0
        have hca : c.args.map a.eval = #[y, y2] := by apply Array.ext'; rw [← eargs, hb]
        obtain ⟨w', g1, g2, g3⟩ := copy_sim (ty := o.type) hI h2 hx hx2
        refine wp_value ?_ (hk _ _ _ _ _ h g2 (hP.copy h2) (V_of_plain g3))
        unfold execOp; rw [ho]
        simp only [resolve, hcal, hca]
        exact run_v g1
      · cases h2
    · -- min
      simp only [Option.bind_eq_some_iff] at h
      obtain ⟨v, h2, h⟩ := h
      obtain ⟨g1, g2⟩ := mm_sim (w := w) h2 hargs
      have hca : (List.map a.eval c.args.toList).toArray = c.args.map a.eval := by apply Array.ext'; simp
      rw [hca] at g1
      refine wp_value ?_ (hk _ _ _ _ _ h (Step.refl hI) hP (V_of_plain g2))
      unfold execOp; rw [ho]
      simp only [resolve, hcal]
      exact run_v g1
    · -- max
      simp only [Option.bind_eq_some_iff] at h
      obtain ⟨v, h2, h⟩ := h
      obtain ⟨g1, g2⟩ := mm_sim (w := w) h2 hargs
      have hca : (List.map a.eval c.args.toList).toArray = c.args.map a.eval := by apply Array.ext'; simp
      rw [hca] at g1
      refine wp_value ?_ (hk _ _ _ _ _ h (Step.refl hI) hP (V_of_plain g2))
      unfold execOp; rw [ho]
      simp only [resolve, hcal]
      exact run_v g1
    · cases h

end
end Go.Ab
