/-
  Results, what is left behind a call, and calls.
-/
import Derived.Test.YtkpamaplmjlagaaSim2b
namespace Go.Ab
open Go

section
variable {P : Program}

theorem V2_of_notTuple {ρ : Ren} {v w : Value} (h : V ρ v w) (hn : notTuple v = true) : V2 ρ v w := by
  cases h with
  | val h => exact h
  | tuple => simp [notTuple] at hn

theorem results1_sim {ρ : Ren} {fr : Fr} {s : S} {a : Act} {w : World} (hI : Inv ρ s.σ w) (hF : FrOk ρ fr a) {r : ResultVar} {v : Value} (h : results1 P fr s r = some v) :
    ∃ v', (match r with | .tmp t => pure (a.tmps.getD t undef) | .cell x t => do loadVar t (← asAddr (a.tmps.getD x undef)) : Sem Value).run P w = .ok v' w ∧ V ρ v v' := by
  cases r with
  | tmp t => exact ⟨_, rfl, hF t v h⟩
  | cell x t =>
    simp only [results1, Option.bind_eq_some_iff] at h
    obtain ⟨p, h1, h2⟩ := h
    have hp := hF x p h1
    obtain ⟨v', g1, g2⟩ := load_sim hI h2 hp
    refine ⟨v', ?_, g2⟩
    have hq : ∃ q, a.tmps.getD x undef = .pointer (some q) := by
      simp only [Instr.loadAt, Sem.run_bind] at g1
      generalize a.tmps.getD x undef = p' at g1
      cases p' with
      | pointer q =>
        cases q with
        | none => simp [Instr.sureAddr] at g1
        | some q => exact ⟨q, rfl⟩
      | _ => simp [Instr.sureAddr] at g1
    obtain ⟨q, hq⟩ := hq
    rw [hq] at g1
    show (do loadVar t (← asAddr (a.tmps.getD x undef)) : Sem Value).run P w = _
    rw [hq]
    simpa [asAddr, Instr.loadAt, Instr.sureAddr] using g1

theorem resultsL_sim {ρ : Ren} {fr : Fr} {s : S} {a : Act} {w : World} (hI : Inv ρ s.σ w) (hF : FrOk ρ fr a) : ∀ {rs : List ResultVar} {vs : List Value}, resultsL P fr s rs = some vs →
    ∃ vs', (rs.mapM (fun r => match r with | .tmp t => pure (a.tmps.getD t undef) | .cell x t => do loadVar t (← asAddr (a.tmps.getD x undef)) : ResultVar → Sem Value)).run P w = .ok vs' w ∧ AllL (V ρ) vs vs'
  | [], vs, h => by simp only [resultsL, Option.some.injEq] at h; subst h; exact ⟨[], rfl, AllL.nil⟩
  | r :: rs, vs, h => by
    simp only [resultsL, Option.bind_eq_some_iff, Option.some.injEq] at h
    obtain ⟨v, h1, vs1, h2, rfl⟩ := h
    obtain ⟨v', g1, g2⟩ := results1_sim hI hF h1
    obtain ⟨vs', k1, k2⟩ := resultsL_sim hI hF h2
    refine ⟨v' :: vs', ?_, AllL.cons g2 k2⟩
    simp only [List.mapM_cons, Sem.run_bind, g1, k1, Result.andThen_ok, Sem.run_pure]

theorem retV_sim {ρ : Ren} {fn : Func} {fr : Fr} {s : S} {a : Act} {w : World} (hI : Inv ρ s.σ w) (hF : FrOk ρ fr a) {v : Value} (h : retV P fn.results.toList fr s = some v) : ∃ v', (results fn a.tmps).run P w = .ok v' w ∧ V ρ v v' := by
  simp only [retV, Option.bind_eq_some_iff] at h
  obtain ⟨vs, h1, h2⟩ := h
  obtain ⟨vs', g1, g2⟩ := resultsL_sim hI hF h1
  have hrun : (results fn a.tmps).run P w = .ok (if h : vs'.toArray.size = 1 then vs'.toArray[0] else .tuple vs'.toArray) w := by
    unfold results
    rw [Array.mapM_eq_mapM_toList]
    simp only [Sem.run_bind, Sem.run_map]
    have key : ∀ f : ResultVar → Sem Value, (∀ r, f r = (match r with | .tmp t => pure (a.tmps.getD t undef) | .cell x t => do loadVar t (← asAddr (a.tmps.getD x undef)))) → (List.mapM f fn.results.toList).run P w = .ok vs' w := by
      intro f hf
      rw [show f = _ from funext hf]; exact g1
    rw [key _ (fun r => by cases r <;> rfl)]
    rfl
  have hl := g2.1
  unfold retL at h2
  split at h2
  · rename_i u
    cases h2
    obtain ⟨y, b, hb⟩ := g2.left
    subst hb
    obtain ⟨hv, hn⟩ := g2.cons_inv
    have hb0 : b = [] := by
      have := hn.1; simp only [List.length_nil] at this; exact List.eq_nil_of_length_eq_zero this.symm
    subst hb0
    exact ⟨y, by rw [hrun]; simp, hv⟩
  · rename_i hne
    split at h2
    · rename_i hall
      cases h2
      refine ⟨.tuple vs'.toArray, ?_, .tuple ⟨by simpa using hl, fun i x y hx hy => ?_⟩⟩
      · rw [hrun, dif_neg]
        intro h
        simp at h
        rw [← hl] at h
        obtain ⟨u, hu⟩ := List.length_eq_one_iff.1 h
        exact hne u hu
      · exact V2_of_notTuple (g2.2 i x y (by simpa using hx) (by simpa using hy)) (List.all_eq_true.1 hall x (List.mem_of_getElem? (by simpa using hx)))
    · cases h2

/-! ### What is left -/

theorem V0_refs {ρ : Ren} {x y : Value} (h : V0 ρ x y) : ∀ j ∈ refs0 x, (ρ j).isSome := by
  cases h with
  | plain h =>
    intro j hj
    cases x <;> simp [refs0] at hj
    · rename_i a; cases a <;> simp at hj; simp [plain1] at h
    · rename_i a _ _; cases a <;> simp at hj; simp [plain1] at h
    · rename_i a; cases a <;> simp at hj; simp [plain1] at h
  | ptr h => intro j hj; simp [refs0] at hj; subst hj; simp [h]
  | slice h => intro j hj; simp [refs0] at hj; subst hj; simp [h]
  | map h => intro j hj; simp [refs0] at hj; subst hj; simp [h]
theorem AllL_refs {ρ : Ren} {R : Value → Value → Prop} {rf : Value → List Nat} (hR : ∀ x y, R x y → ∀ j ∈ rf x, (ρ j).isSome) {a b : List Value} (h : AllL R a b) : ∀ j ∈ a.flatMap rf, (ρ j).isSome := by
  intro j hj
  obtain ⟨x, hx, hj⟩ := List.mem_flatMap.1 hj
  obtain ⟨i, hi⟩ := List.getElem?_of_mem hx
  obtain ⟨y, _, hxy⟩ := h.get hi
  exact hR x y hxy j hj
theorem refs1_of_not {v : Value} (h : ∀ f a b, v ≠ .func f a b) : refs1 v = refs0 v := by
  cases v <;> first | rfl | exact absurd rfl (h _ _ _)
theorem V1_refs {ρ : Ren} {x y : Value} (h : V1 ρ x y) : ∀ j ∈ refs1 x, (ρ j).isSome := by
  cases h with
  | base h =>
    have : refs1 x = refs0 x := by cases h <;> first | rfl | (rename_i h; cases x <;> first | rfl | simp [plain1] at h)
    rw [this]; exact V0_refs h
  | func ha hb =>
    intro j hj
    simp only [refs1, List.mem_append] at hj
    rcases hj with hj | hj
    · exact AllL_refs (fun x y h => V0_refs h) ha j hj
    · exact AllL_refs (fun x y h => V0_refs h) hb j hj

/-- Alike by another naming, if it names what is met as the first did. -/
theorem V0.change {ρ ρ' : Ren} {x y : Value} (h : V0 ρ x y) (hr : ∀ j ∈ refs0 x, ρ' j = ρ j) : V0 ρ' x y := by
  cases h with
  | plain h => exact .plain h
  | ptr h => exact .ptr (by rw [hr _ (by simp [refs0])]; exact h)
  | slice h hn hf hc ha => exact .slice (by rw [hr _ (by simp [refs0])]; exact h) hn hf hc ha
  | map h => exact .map (by rw [hr _ (by simp [refs0])]; exact h)
theorem AllL.change {R R' : Value → Value → Prop} {a b : List Value} (h : AllL R a b) (k : ∀ x ∈ a, ∀ y, R x y → R' x y) : AllL R' a b :=
  ⟨h.1, fun i x y hx hy => k x (List.mem_of_getElem? hx) y (h.2 i x y hx hy)⟩
theorem V1.change {ρ ρ' : Ren} {x y : Value} (h : V1 ρ x y) (hr : ∀ j ∈ refs1 x, ρ' j = ρ j) : V1 ρ' x y := by
  cases h with
  | base h =>
    have : refs1 x = refs0 x := by cases h <;> first | rfl | (rename_i h; cases x <;> first | rfl | simp [plain1] at h)
    rw [this] at hr
    exact .base (h.change hr)
  | func ha hb =>
    simp only [refs1, List.mem_append] at hr
    refine .func (ha.change fun x hx y h => h.change fun j hj => hr j (.inl (List.mem_flatMap.2 ⟨x, hx, hj⟩))) (hb.change fun x hx y h => h.change fun j hj => hr j (.inr (List.mem_flatMap.2 ⟨x, hx, hj⟩)))
theorem V2.change {ρ ρ' : Ren} {x y : Value} (h : V2 ρ x y) (hr : ∀ j ∈ refs2 x, ρ' j = ρ j) : V2 ρ' x y := by
  cases h with
  | cell h =>
    have : refs2 x = refs1 x := by
      cases h with
      | base h => cases h <;> first | rfl | (rename_i h; cases x <;> first | rfl | simp [plain1] at h)
      | func => rfl
    rw [this] at hr
    exact .cell (h.change hr)
  | agg h =>
    simp only [refs2] at hr
    exact .agg (h.change fun x hx y hh => hh.change fun j hj => hr j (List.mem_flatMap.2 ⟨x, hx, hj⟩))
theorem V.change {ρ ρ' : Ren} {x y : Value} (h : V ρ x y) (hr : ∀ j ∈ refs x, ρ' j = ρ j) : V ρ' x y := by
  cases h with
  | val h =>
    have : refs x = refs2 x := by
      cases h with
      | cell h => cases h with
        | base h => cases h <;> first | rfl | (rename_i h; cases x <;> first | rfl | simp [plain1] at h)
        | func => rfl
      | agg => rfl
    rw [this] at hr
    exact .val (h.change hr)
  | tuple h =>
    simp only [refs] at hr
    exact .tuple (h.change fun x hx y hh => hh.change fun j hj => hr j (List.mem_flatMap.2 ⟨x, hx, hj⟩))

/-- The same with the places turned by 'g'. -/
theorem V0.ren {ρ ρ' : Ren} {g : Nat → Nat} {x y : Value} (h : V0 ρ x y) (hr : ∀ j ∈ refs0 x, ρ' (g j) = ρ j) : V0 ρ' (ren1 g x) y := by
  cases h with
  | plain h =>
    have : ren1 g x = x := by
      cases x <;> try rfl
      · rename_i a; cases a <;> first | rfl | simp [plain1] at h
      · rename_i a _ _; cases a <;> first | rfl | simp [plain1] at h
      · rename_i a; cases a <;> first | rfl | simp [plain1] at h
    rw [this]; exact .plain h
  | ptr h => exact .ptr (by rw [hr _ (by simp [refs0])]; exact h)
  | slice h hn hf hc ha => exact .slice (by rw [hr _ (by simp [refs0])]; exact h) hn hf hc ha
  | map h => exact .map (by rw [hr _ (by simp [refs0])]; exact h)
theorem V1.ren {ρ ρ' : Ren} {g : Nat → Nat} {x y : Value} (h : V1 ρ x y) (hf : ∀ f a b, x ≠ .func f a b) (hr : ∀ j ∈ refs1 x, ρ' (g j) = ρ j) : V1 ρ' (ren1 g x) y := by
  cases h with
  | base h => rw [refs1_of_not hf] at hr; exact .base (h.ren hr)
  | func => exact absurd rfl (hf _ _ _)
theorem AllL.map {R R' : Value → Value → Prop} {f : Value → Value} {a b : List Value} (h : AllL R a b) (k : ∀ x ∈ a, ∀ y, R x y → R' (f x) y) : AllL R' (a.map f) b := by
  refine ⟨by simpa using h.1, fun i x y hx hy => ?_⟩
  simp only [List.getElem?_map, Option.map_eq_some_iff] at hx
  obtain ⟨u, hu, rfl⟩ := hx
  exact k u (List.mem_of_getElem? hu) y (h.2 i u y hu hy)
def noFn2 : Value → Bool
  | .func _ _ _ => false
  | .agg cs => cs.all fun | .func _ _ _ => false | _ => true
  | _ => true
theorem V2.ren {ρ ρ' : Ren} {g : Nat → Nat} {x y : Value} (h : V2 ρ x y) (hf : noFn2 x = true) (hr : ∀ j ∈ refs2 x, ρ' (g j) = ρ j) : V2 ρ' (ren2 g x) y := by
  cases h with
  | cell h =>
    have e : refs2 x = refs1 x ∧ ren2 g x = ren1 g x ∧ ∀ f a b, x ≠ .func f a b := by
      cases h with
      | base h => cases h <;> first | (refine ⟨rfl, rfl, ?_⟩; intro f a b; simp; done) | (rename_i h; cases x <;> first | (refine ⟨rfl, rfl, ?_⟩; intro f a b; simp; done) | simp [plain1] at h)
      | func => simp [noFn2] at hf
    rw [e.1] at hr
    rw [e.2.1]
    exact .cell (h.ren e.2.2 hr)
  | agg h =>
    rename_i cs cs'
    simp only [refs2] at hr
    have e : ren2 g (.agg cs) = .agg (cs.map (ren1 g)) := rfl
    rw [e]
    refine .agg ?_
    rw [Array.toList_map]
    refine h.map fun x hx y hh => hh.ren ?_ fun j hj => hr j (List.mem_flatMap.2 ⟨x, hx, hj⟩)
    rintro f a b rfl
    simp only [noFn2] at hf
    rw [Array.all_eq_true'] at hf
    have := hf _ (by simpa using hx)
    simp at this
theorem V.ren {ρ ρ' : Ren} {g : Nat → Nat} {x y : Value} (h : V ρ x y) (hf : noFn x = true) (hr : ∀ j ∈ refs x, ρ' (g j) = ρ j) : V ρ' (renV g x) y := by
  cases h with
  | val h =>
    have e : refs x = refs2 x ∧ renV g x = ren2 g x ∧ noFn2 x = true := by
      cases h with
      | cell h => cases h with
        | base h => cases h <;> first | (refine ⟨rfl, rfl, ?_⟩; rfl) | (rename_i h; cases x <;> first | (refine ⟨rfl, rfl, ?_⟩; rfl) | simp [plain1] at h)
        | func => simp [noFn] at hf
      | agg => exact ⟨rfl, rfl, hf⟩
    rw [e.1] at hr
    rw [e.2.1]
    exact .val (h.ren e.2.2 hr)
  | tuple h =>
    rename_i cs cs'
    simp only [refs] at hr
    have e : renV g (.tuple cs) = .tuple (cs.map (ren2 g)) := rfl
    rw [e]
    refine .tuple ?_
    rw [Array.toList_map]
    refine h.map fun x hx y hh => hh.ren ?_ fun j hj => hr j (List.mem_flatMap.2 ⟨x, hx, hj⟩)
    simp only [noFn] at hf
    rw [Array.all_eq_true'] at hf
    have := hf _ (by simpa using hx)
    cases x <;> first | rfl | exact this

end
end Go.Ab
