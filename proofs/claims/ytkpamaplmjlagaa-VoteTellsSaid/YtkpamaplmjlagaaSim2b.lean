/-
  A body is carried out.
-/
import Derived.Test.YtkpamaplmjlagaaDraw
namespace Go.Ab
open Go
section
variable {P : Program}

theorem lk_kill {t : Nat} {v : Value} {fr : Fr} : ∀ {l : List Nat}, lk t (kill l fr) = some v → lk t fr = some v
  | [], h => by simp [kill, lk] at h
  | u :: l, h => by
    simp only [kill, List.filterMap_cons] at h
    cases hu : lk u fr with
    | none => simp only [hu, Option.map_none] at h; exact lk_kill (l := l) h
    | some x =>
      simp only [hu, Option.map_some, lk] at h
      split at h
      · subst_vars; cases h; exact hu
      · exact lk_kill (l := l) h
theorem FrOk.kill {ρ : Ren} {fr : Fr} {a : Act} (k : FrOk ρ fr a) (l : List Nat) : FrOk ρ (Ab.kill l fr) a := fun t v hv => k t v (lk_kill hv)

/-- A loop by rounds. -/
theorem wp_loop_fuel {c : Code} {Q : Exit → Act → World → Prop} (J : Nat → Act → World → Prop) (zero : ∀ a w, ¬J 0 a w)
    (round : ∀ m a w, J (m + 1) a w → c.wp P (Exit.then (fun a' w' => J m a' w') Q) a w) {m : Nat} {a : Act} {w : World} (h : J m a w) : (Code.loop c).wp P Q a w := by
  intro b k cs
  have key : ∀ m a w, J m a w → ∃ e a' w', Q e a' w' ∧ Arrives P (Go.lone (b.at a (.code c :: .inLoop c :: k)) cs w) b k cs e a' w' := by
    intro m
    induction m with
    | zero => intro a w h; exact absurd h (zero a w)
    | succ m ih =>
      intro a w h
      obtain ⟨e, a₁, w₁, hq, harr⟩ := round m a w h b (.inLoop c :: k) cs
      cases e with
      | normal =>
        obtain ⟨e₂, a₂, w₂, hq₂, harr₂⟩ := ih a₁ w₁ hq
        exact ⟨e₂, a₂, w₂, hq₂, .of_steps (Steps.trans harr (.one step_inLoop)) harr₂⟩
      | exit id => exact ⟨_, a₁, w₁, hq, .pass (x := .inLoop c) rfl (fun _ _ => .inl (by simp)) harr⟩
      | goto l => exact ⟨_, a₁, w₁, hq, .pass (x := .inLoop c) rfl (fun _ _ => .inl (by simp)) harr⟩
      | ret => exact ⟨_, a₁, w₁, hq, .pass (x := .inLoop c) rfl (fun _ _ => .inl (by simp)) harr⟩
      | panic ch => exact ⟨_, a₁, w₁, hq, .pass (x := .inLoop c) rfl (fun _ _ => .inl (by simp)) harr⟩
      | outgrown => exact ⟨_, a₁, w₁, hq, .pass (x := .inLoop c) rfl (fun _ _ => .inl (by simp)) harr⟩
  obtain ⟨e, a', w', hq, harr⟩ := key m a w h
  exact ⟨e, a', w', hq, .of_steps (.one step_loop) harr⟩

def toExit : Ctl → Exit
  | .norm => .normal
  | .ret => .ret
  | .exit id => .exit id

/-- What holds where the continuation is asked. -/
def KOk (σ0 : List AObj) (nt : Nat) (k : KC) (out : Out) (ρ0 : Ren) (σi : List AObj) (wi : World) (Q : Exit → Act → World → Prop) : Prop :=
  ∀ c fr' s' ρ' a' w', k c fr' s' = some out → Step ρ0 σi wi ρ' s'.σ w' → Pres σ0 s' → FrOk ρ' fr' a' → a'.tmps.size = nt → a'.defers = [] → Q (toExit c) a' w'

theorem exec_sim {C : Oracle} (hC : OracleOk P C) (hN : NamesOk P) {n : Nat} {L : Nat → List Nat} {σ0 : List AObj} {nt : Nat} {out : Out} {ρ0 : Ren} {σi : List AObj} {wi : World} :
    ∀ (c : Code) (fr : Fr) (s : S) (a : Act) (w : World) (ρ : Ren) (k : KC) (Q : Exit → Act → World → Prop), exec P C (iterN n) L σ0.length nt c fr s k = some out → Step ρ0 σi wi ρ s.σ w → Pres σ0 s → FrOk ρ fr a → a.tmps.size = nt → a.defers = [] →
      KOk σ0 nt k out ρ0 σi wi Q → c.wp P Q a w
  | .skip, fr, s, a, w, ρ, k, Q, h, hst, hP, hF, hs, hdf, hk => wp_skip (hk .norm _ _ _ _ _ h hst hP hF hs hdf)
  | .label l, fr, s, a, w, ρ, k, Q, h, hst, hP, hF, hs, hdf, hk => wp_label (hk .norm _ _ _ _ _ h hst hP hF hs hdf)
  | .region id ops draw, fr, s, a, w, ρ, k, Q, h, hst, hP, hF, hs, hdf, hk => by
    simp only [exec] at h
    cases draw with
    | true =>
      simp only [if_true] at h
      exact evalDraw_sim hC hN hN.2 h hst hP hF hs hdf (fun fr' s' ρ' a' w' hk' => hk .norm _ _ _ _ _ hk')
    | false =>
      simp only [Bool.false_eq_true, if_false] at h
      refine wp_region ?_
      have := evalOps_sim hC hN (ops := ops) ops.toList 0 fr s a w ρ (by simp) h hst hP hF hs hdf (fun fr' s' ρ' a' w' hk' => hk .norm _ _ _ _ _ hk')
      simpa [List.range_eq_range'] using this
  | .seq x y, fr, s, a, w, ρ, k, Q, h, hst, hP, hF, hs, hdf, hk => by
    simp only [exec] at h
    refine wp_seq (exec_sim hC hN x fr s a w ρ _ _ h hst hP hF hs hdf fun c fr' s' ρ' a' w' hk' hst' hP' hF' hs' hdf' => ?_)
    cases c with
    | norm => exact exec_sim hC hN y fr' s' a' w' ρ' k Q hk' hst' hP' hF' hs' hdf' hk
    | ret => exact hk .ret _ _ _ _ _ hk' hst' hP' hF' hs' hdf'
    | exit id => exact hk (.exit id) _ _ _ _ _ hk' hst' hP' hF' hs' hdf'
  | .cond c x y, fr, s, a, w, ρ, k, Q, h, hst, hP, hF, hs, hdf, hk => by
    simp only [exec, Option.bind_eq_some_iff] at h
    obtain ⟨v, hv, h⟩ := h
    unfold ifV at h
    split at h
    · rename_i t
      refine wp_cond (bool_inv (opnd_sim hF hv)) ?_
      cases t with
      | true => exact exec_sim hC hN x fr s a w ρ k Q (by simpa using h) hst hP hF hs hdf hk
      | false => exact exec_sim hC hN y fr s a w ρ k Q (by simpa using h) hst hP hF hs hdf hk
    · cases h
  | .block id x, fr, s, a, w, ρ, k, Q, h, hst, hP, hF, hs, hdf, hk => by
    simp only [exec] at h
    refine wp_block (exec_sim hC hN x fr s a w ρ _ _ h hst hP hF hs hdf fun c fr' s' ρ' a' w' hk' hst' hP' hF' hs' hdf' => ?_)
    cases c with
    | norm => exact hk .norm _ _ _ _ _ hk' hst' hP' hF' hs' hdf'
    | ret => exact hk .ret _ _ _ _ _ hk' hst' hP' hF' hs' hdf'
    | exit i =>
      simp only [kBlock] at hk'
      simp only [toExit, Exit.inBlock]
      split
      · rename_i hi; rw [if_pos hi] at hk'; exact hk .norm _ _ _ _ _ hk' hst' hP' hF' hs' hdf'
      · rename_i hi; rw [if_neg hi] at hk'; exact hk (.exit i) _ _ _ _ _ hk' hst' hP' hF' hs' hdf'
  | .loop x, fr, s, a, w, ρ, k, Q, h, hst, hP, hF, hs, hdf, hk => by
    simp only [exec] at h
    refine wp_loop_fuel (fun m a w => ∃ fr s ρ, iterN m (fun self fr s => exec P C (iterN n) L σ0.length nt x fr s (kLoop (L (firstReg x)) (L (10000 + firstReg x)) self k)) fr s = some out ∧ Step ρ0 σi wi ρ s.σ w ∧ Pres σ0 s ∧ FrOk ρ fr a ∧ a.tmps.size = nt ∧ a.defers = []) ?_ ?_ ⟨_, _, _, h, hst, hP, hF.kill _, hs, hdf⟩
    · rintro a w ⟨fr, s, ρ, h, _⟩; simp [iterN] at h
    · rintro m a w ⟨fr, s, ρ, h, hst, hP, hF, hs, hdf⟩
      simp only [iterN] at h
      refine exec_sim hC hN x fr s a w ρ _ _ h hst hP hF hs hdf fun c fr' s' ρ' a' w' hk' hst' hP' hF' hs' hdf' => ?_
      cases c with
      | norm => exact ⟨_, _, _, hk', hst', hP', hF'.kill _, hs', hdf'⟩
      | ret => exact hk .ret _ _ _ _ _ hk' hst' hP' (hF'.kill _) hs' hdf'
      | exit i => exact hk (.exit i) _ _ _ _ _ hk' hst' hP' (hF'.kill _) hs' hdf'
  | .exit id, fr, s, a, w, ρ, k, Q, h, hst, hP, hF, hs, hdf, hk => wp_exit (hk (.exit id) _ _ _ _ _ h hst hP hF hs hdf)
  | .ret, fr, s, a, w, ρ, k, Q, h, hst, hP, hF, hs, hdf, hk => wp_ret (hk .ret _ _ _ _ _ h hst hP hF hs hdf)
  | .rangeFunc .., fr, s, a, w, ρ, k, Q, h, hst, hP, hF, hs, hdf, hk => by simp [exec] at h
  | .scope _, fr, s, a, w, ρ, k, Q, h, hst, hP, hF, hs, hdf, hk => by simp [exec] at h
  | .goto _, fr, s, a, w, ρ, k, Q, h, hst, hP, hF, hs, hdf, hk => by simp [exec] at h
  | .refuse _, fr, s, a, w, ρ, k, Q, h, hst, hP, hF, hs, hdf, hk => by simp [exec] at h

end
end Go.Ab
