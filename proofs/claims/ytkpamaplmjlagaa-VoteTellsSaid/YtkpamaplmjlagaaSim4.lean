/-
  What is left behind a call; calls.
-/
import Derived.Test.YtkpamaplmjlagaaSim3
namespace Go.Ab
open Go

theorem mem_dedup {x : Nat} : ∀ {l : List Nat}, x ∈ dedup l ↔ x ∈ l
  | [] => by simp [dedup]
  | y :: l => by
    simp only [dedup, List.mem_cons, List.mem_filter, mem_dedup (l := l), ne_eq, decide_not, Bool.not_eq_true', decide_eq_false_iff_not]
    by_cases h : x = y <;> simp [h]
theorem nodup_dedup : ∀ {l : List Nat}, (dedup l).Nodup
  | [] => by simp [dedup]
  | y :: l => by
    simp only [dedup, List.nodup_cons]
    exact ⟨by simp, List.Pairwise.filter _ nodup_dedup⟩

section
variable {P : Program}

/-- Elder objects lead to elder objects. -/
theorem old_refs {ρ0 ρ1 : Ren} {σ0 : List AObj} {s : S} {w0 w1 : World} (hI0 : Inv ρ0 σ0 w0) (hst : Step ρ0 σ0 w0 ρ1 s.σ w1) (hP : Pres σ0 s) (hev : ∀ i, i < σ0.length → i ∉ s.ev) {b lo : Nat} {op : Bool} {r : List Value} {x : Nat × Nat × Nat} (hb : b < σ0.length) (hr : s.σ[b]? = some (.arr r lo op)) (hρ : ρ1 b = some x) :
    ∀ y ∈ r, ∀ j ∈ refs1 y, j < σ0.length := by
  intro y hy j hj
  obtain ⟨r0, lo0, op0, h1, h2⟩ := hP.2 b hb (hev b hb) r lo op hr
  rcases h2 y hy with h3 | h3
  · rw [hst.old b hb] at hρ
    obtain ⟨β, s', N⟩ := x
    obtain ⟨c, e, fz, _, _, _, _, h5, _⟩ := hI0.arr _ _ _ _ _ _ _ h1 hρ
    obtain ⟨i, hi⟩ := List.getElem?_of_mem h3
    obtain ⟨z, _, hv⟩ := h5 i y hi
    have := V1_refs hv j hj
    rcases Nat.lt_or_ge j σ0.length with h | h
    · exact h
    · rw [hI0.new j h] at this; cases this
  · exact Nat.lt_trans (h3 j hj) hb

theorem gc_sim {ρ0 ρ1 : Ren} {σ0 : List AObj} {s : S} {w0 w1 : World} {v v' : Value} (hI0 : Inv ρ0 σ0 w0) (hst : Step ρ0 σ0 w0 ρ1 s.σ w1) (hP : Pres σ0 s) (hV : V ρ1 v v') :
    ∃ ρ2, Step ρ0 σ0 w0 ρ2 (gc σ0.length v s).2.σ w1 ∧ V ρ2 (gc σ0.length v s).1 v' ∧ Pres σ0 (gc σ0.length v s).2 := by
  refine ⟨ρ1, hst, hV, hP.1, fun i hi he => hP.2 i hi fun h => he ?_⟩
  show i ∈ s.ev.filter _
  simp only [List.mem_filter, decide_eq_true_eq]
  exact ⟨h, hi⟩

theorem lk_zip {t : Nat} {v : Value} : ∀ (l : List Value) (k : Nat), lk t ((l.zipIdx k).map fun (v, i) => (i, v)) = some v → k ≤ t ∧ l[t - k]? = some v
  | [], k, h => by simp [lk] at h
  | x :: l, k, h => by
    simp only [List.zipIdx_cons, List.map_cons, lk] at h
    by_cases hk : k = t
    · subst hk
      rw [if_pos rfl] at h
      cases h
      exact ⟨Nat.le_refl _, by simp⟩
    · rw [if_neg hk] at h
      obtain ⟨h1, h2⟩ := lk_zip l (k + 1) h
      refine ⟨by omega, ?_⟩
      rw [show t - k = (t - (k + 1)) + 1 by omega]
      simpa using h2
theorem lk_enter {args : List Value} {t : Nat} {v : Value} (h : lk t (enterFr args) = some v) : args[t]? = some v := by
  simpa using (lk_zip args 0 h).2

/-- What the proof asks of a contract that stands in for a function's text. -/
def StandOk (P : Program) (f : FuncId) (g : List Value → List AObj → Option Out) : Prop := OracleOk P fun f' args σ => if f' = f then g args σ else none

theorem body_sim {C : Oracle} (hC : OracleOk P C) (hN : NamesOk P) {n : Nat} {H : FuncId → Nat → List Nat} : OracleOk P (bodyOf P C (iterN n) H) := by
  intro f args σ v s' h ρ w args' hI hargs
  unfold bodyOf at h
  split at h
  · rename_i fn hfn
    split at h
    · rename_i c hc
      split at h
      · rename_i hnt
        have hlen := hargs.1
        have hF : FrOk ρ (enterFr args) { tmps := args'.toArray ++ Array.replicate (fn.ntmps - args'.toArray.size) undef, defers := [] } := by
          intro t u hu
          have hu' := lk_enter hu
          obtain ⟨y, hy, hv⟩ := hargs.get hu'
          have ht := get_lt hy
          have : (args'.toArray ++ Array.replicate (fn.ntmps - args'.toArray.size) undef).getD t undef = y := by
            rw [Array.getD_eq_getD_getElem?, Array.getElem?_append_left (by simpa using ht)]
            simp [hy]
          simp only [this]; exact hv
        have hsize : (args'.toArray ++ Array.replicate (fn.ntmps - args'.toArray.size) undef).size = fn.ntmps := by simp; omega
        have hmain : ∀ (R : Ending → World → Prop), (∀ v' ρ' w', Step ρ σ w ρ' s'.σ w' → V ρ' v v' → Pres σ s' → R (.returned v') w') → Calls P f args'.toArray w R := by
          intro R hR
          refine calls_of_wp hfn hc ?_
          refine exec_sim hC hN (ρ0 := ρ) (σi := σ) (wi := w) c _ _ _ _ ρ _ _ h (Step.refl hI) (Pres.refl σ) hF hsize rfl ?_
          intro ctl fr' s1 ρ1 a1 w1 hk hst hP hF1 hs1 hd1
          have hk' : ((retV P fn.results.toList fr' s1).bind fun v => some (gc σ.length v s1)) = some (v, s') ∧ (ctl = .norm ∨ ctl = .ret) := by
            cases ctl with
            | norm => exact ⟨hk, .inl rfl⟩
            | ret => exact ⟨hk, .inr rfl⟩
            | exit id => cases hk
          obtain ⟨hk', hctl⟩ := hk'
          simp only [Option.bind_eq_some_iff, Option.some.injEq] at hk'
          obtain ⟨u, hu, hg⟩ := hk'
          obtain ⟨u', hrun, hV⟩ := retV_sim (fn := fn) hst.inv hF1 hu
          obtain ⟨ρ2, g1, g2, g3⟩ := gc_sim hI hst hP hV
          rw [hg] at g1 g2 g3
          rcases hctl with rfl | rfl
          · exact ⟨hd1, u', hrun, hR _ _ _ g1 g2 g3⟩
          · exact ⟨hd1, u', hrun, hR _ _ _ g1 g2 g3⟩
        refine ⟨⟨fn, hfn, by rw [hc]; rfl⟩, hmain _ fun v' ρ' w' h1 h2 _ => ⟨v', ρ', rfl, h1, h2⟩, ?_⟩
        obtain ⟨_, _, _, hp, _⟩ := hmain (fun _ _ => Pres σ s') (fun _ _ _ _ _ h => h) []
        exact hp
      · cases h
    · cases h
  · cases h

/-- **The abstract machine's calls are the model's.** -/
theorem callN_sim (hN : NamesOk P) {X : FuncId → Option (List Value → List AObj → Option Out)} (hX : ∀ f g, X f = some g → StandOk P f g) {H : FuncId → Nat → List Nat} : ∀ n, OracleOk P (callN P X H n)
  | 0 => fun f args σ v s' h => by simp [callN] at h
  | n + 1 => fun f args σ v s' h ρ w args' hI hargs => by
    simp only [callN] at h
    cases hx : X f with
    | some g =>
      rw [hx] at h
      exact hX f g hx f args σ v s' (by simpa using h) ρ w args' hI hargs
    | none =>
      rw [hx] at h
      exact body_sim (callN_sim hN hX n) hN f args σ v s' h ρ w args' hI hargs

end
end Go.Ab
#print axioms Go.Ab.callN_sim
