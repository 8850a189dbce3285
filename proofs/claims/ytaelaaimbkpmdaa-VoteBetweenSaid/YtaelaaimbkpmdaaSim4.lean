/-
  What is left behind a call; calls.
-/
import Derived.Test.YtaelaaimbkpmdaaSim3
namespace Go.Ab
open Go

theorem mem_dedup {x : Nat} : ∀ {l : List Nat}, x ∈ dedup l ↔ x ∈ l
  | [] => by simp [dedup]
  | y :: l => by
    simp only [dedup, List.mem_cons, List.mem_filter, mem_dedup (l := l), ne_eq, decide_not, Bool.not_eq_true', decide_eq_false_iff_not]
    by_cases h : x = y <;> simp [h]
theorem nodup_dedup : ∀ {l : List Nat}, (dedup l).Nodup
  | [] => by simp [dedup]
  | y :: l => by
    simp only [dedup, List.nodup_cons]
    exact ⟨by simp, List.Pairwise.filter _ nodup_dedup⟩

section
variable {P : Program}

/-- Elder objects lead to elder objects. -/
theorem old_refs {ρ0 ρ1 : Ren} {σ0 : List AObj} {s : S} {w0 w1 : World} (hI0 : Inv ρ0 σ0 w0) (hst : Step ρ0 σ0 w0 ρ1 s.σ w1) (hP : Pres σ0 s) (hev : ∀ i, i < σ0.length → i ∉ s.ev) {b lo : Nat} {op : Bool} {r : List Value} {x : Nat × Nat × Nat} (hb : b < σ0.length) (hr : s.σ[b]? = some (.arr r lo op)) (hρ : ρ1 b = some x) :
    ∀ y ∈ r, ∀ j ∈ refs1 y, j < σ0.length := by
  intro y hy j hj
  obtain ⟨r0, lo0, op0, h1, h2⟩ := hP.2 b hb (hev b hb) r lo op hr
  rcases h2 y hy with h3 | h3
  · rw [hst.old b hb] at hρ
    obtain ⟨β, s', N⟩ := x
    obtain ⟨c, e, fz, _, _, _, _, h5, _⟩ := hI0.arr _ _ _ _ _ _ _ h1 hρ
    obtain ⟨i, hi⟩ := List.getElem?_of_mem h3
    obtain ⟨z, _, hv⟩ := h5 i y hi
    have := V1_refs hv j hj
    rcases Nat.lt_or_ge j σ0.length with h | h
    · exact h
    · rw [hI0.new j h] at this; cases this
  · exact Nat.lt_trans (h3 j hj) hb

theorem gc_sim {ρ0 ρ1 : Ren} {σ0 : List AObj} {s : S} {w0 w1 : World} {v v' : Value} (hI0 : Inv ρ0 σ0 w0) (hst : Step ρ0 σ0 w0 ρ1 s.σ w1) (hP : Pres σ0 s) (hV : V ρ1 v v') :
    ∃ ρ2, Step ρ0 σ0 w0 ρ2 (gc σ0.length v s).2.σ w1 ∧ V ρ2 (gc σ0.length v s).1 v' ∧ Pres σ0 (gc σ0.length v s).2 := by
  unfold gc
  simp only
  by_cases hev0 : (s.ev.filter fun b => decide (b < σ0.length)).isEmpty = true
  case neg =>
    rw [if_neg hev0]
    refine ⟨ρ1, hst, hV, hP.1, fun i hi he => hP.2 i hi fun h => he ?_⟩
    simp only [List.mem_filter, decide_eq_true_eq]
    exact ⟨h, hi⟩
  rw [if_pos hev0]
  have hev : ∀ i, i < σ0.length → i ∉ s.ev := by
    intro i hi h
    have : i ∈ s.ev.filter fun b => decide (b < σ0.length) := by simp [h, hi]
    rw [List.isEmpty_iff.1 hev0] at this
    cases this
  have hPk : Pres σ0 ⟨s.σ, []⟩ := ⟨hP.1, fun i hi _ => hP.2 i hi (hev i hi)⟩
  have hlen := hP.1
  have hI1 := hst.inv
  -- elder objects, by another naming that is the first's on what is elder
  have helder : ∀ (ρ2 : Ren), (∀ b, b < σ0.length → ρ2 b = ρ1 b) → ∀ b r lo op β so N, b < σ0.length → s.σ[b]? = some (.arr r lo op) → ρ2 b = some (β, so, N) → ∃ c e fz, w1.heap[β]? = some (.cells c e fz) ∧ c.size = N ∧ so + r.length ≤ N ∧ lo ≤ r.length ∧
      (∀ i x, r[i]? = some x → ∃ y, c[so + i]? = some y ∧ V1 ρ2 x y) ∧ (op = true → ∀ i, so + lo ≤ i → i < N → ¬(fz.1 ≤ i ∧ i < fz.2)) := by
    intro ρ2 hρ2 b r lo op β so N hb hr hρ
    rw [hρ2 b hb] at hρ
    obtain ⟨c, e, fz, k1, k2, k3, k4, k5, k6⟩ := hI1.arr _ _ _ _ _ _ _ hr hρ
    refine ⟨c, e, fz, k1, k2, k3, k4, fun i x hx => ?_, k6⟩
    obtain ⟨y, hy, hv⟩ := k5 i x hx
    refine ⟨y, hy, hv.change fun j hj => hρ2 j ?_⟩
    exact old_refs hI0 hst hP hev hb hr hρ x (List.mem_of_getElem? hx) j hj
  have htake : ∀ b o, (s.σ.take σ0.length)[b]? = some o → b < σ0.length ∧ s.σ[b]? = some o := by
    intro b o h
    rw [List.getElem?_take] at h
    split at h
    · exact ⟨‹_›, h⟩
    · cases h
  have htl : (s.σ.take σ0.length).length = σ0.length := by simp; omega
  by_cases hl0 : (dedup ((refs v).filter fun b => decide (σ0.length ≤ b))).isEmpty = true
  · rw [if_pos hl0]
    have href : ∀ j ∈ refs v, j < σ0.length := by
      intro j hj
      rcases Nat.lt_or_ge j σ0.length with h | h
      · exact h
      · have : j ∈ dedup ((refs v).filter fun b => decide (σ0.length ≤ b)) := mem_dedup.2 (by simp [hj, h])
        rw [List.isEmpty_iff.1 hl0] at this
        cases this
    let ρ2 : Ren := fun b => if b < σ0.length then ρ1 b else none
    have hρ2 : ∀ b, b < σ0.length → ρ2 b = ρ1 b := fun b hb => if_pos hb
    have hρ2' : ∀ b x, ρ2 b = some x → b < σ0.length ∧ ρ1 b = some x := by
      intro b x h
      simp only [ρ2] at h
      split at h
      · exact ⟨‹_›, h⟩
      · cases h
    refine ⟨ρ2, ⟨?_, by rw [htl]; exact Nat.le_refl _, fun b hb => (hρ2 b hb).trans (hst.old b hb), hst.ext, ?_, ?_⟩, hV.change fun j hj => hρ2 j (href j hj), ?_⟩
    · intro b x hx
      rcases Nat.lt_or_ge b σ0.length with h | h
      · rw [hρ2 b h]; exact hst.le b x hx
      · rw [hI0.new b h] at hx; cases hx
    · rintro β i hβ ⟨b, r, lo, so, N, h1, h2, h3⟩
      exact hst.opn β i hβ ⟨b, r, lo, so, N, (htake b _ h1).2, (hρ2' b _ h2).2, h3⟩
    · refine ⟨fun b hb => ?_, fun b β so N h => hI1.blk b β so N (hρ2' b _ h).2, fun b r lo op β so N h1 h2 => ?_, fun b b' r lo r' lo' op' β so N so' N' hne h1 h2 h3 h4 => hI1.own b b' r lo r' lo' op' β so N so' N' hne (htake _ _ h1).2 (htake _ _ h2).2 (hρ2' _ _ h3).2 (hρ2' _ _ h4).2⟩
      · rw [htl] at hb
        exact if_neg (by omega)
      · exact helder ρ2 hρ2 b r lo op β so N (htake _ _ h1).1 (htake _ _ h1).2 h2
    · refine ⟨by rw [htl]; exact Nat.le_refl _, fun i hi _ r lo op hr => hP.2 i hi (hev i hi) r lo op (htake _ _ hr).2⟩
  rw [if_neg hl0]
  generalize hl : dedup ((refs v).filter fun b => decide (σ0.length ≤ b)) = l at *
  by_cases hc : (noFn v && l.all fun b => ((s.σ[b]?).map lone).getD false) = true
  case neg => rw [if_neg hc]; exact ⟨ρ1, hst, hV, hPk⟩
  rw [if_pos hc]
  simp only [Bool.and_eq_true] at hc
  obtain ⟨hnf, hall⟩ := hc
  have hnd : l.Nodup := by rw [← hl]; exact nodup_dedup
  have hlge : ∀ b ∈ l, σ0.length ≤ b := by
    intro b hb
    rw [← hl] at hb
    have := mem_dedup.1 hb
    simp at this
    exact this.2
  have hlone : ∀ b ∈ l, ∃ r lo op, s.σ[b]? = some (.arr r lo op) ∧ r.all plain1 = true := by
    intro b hb
    have := List.all_eq_true.1 hall b hb
    cases hs : s.σ[b]? with
    | none => simp [hs] at this
    | some o =>
      cases o with
      | arr r lo op => simp [hs, lone] at this; exact ⟨r, lo, op, rfl, by simpa using this⟩
      | mp es => simp [hs, lone] at this
      | dead => simp [hs, lone] at this
  have hfm : ∀ (m : List Nat), (∀ b ∈ m, ∃ r lo op, s.σ[b]? = some (.arr r lo op) ∧ r.all plain1 = true) → (m.filterMap (s.σ[·]?)).length = m.length ∧ ∀ i : Nat, (m.filterMap (s.σ[·]?))[i]? = (m[i]?).bind (s.σ[·]?) := by
    intro m
    induction m with
    | nil => intro _; simp
    | cons b m ih =>
      intro h
      obtain ⟨r, lo, op, h1, _⟩ := h b (by simp)
      obtain ⟨i1, i2⟩ := ih fun c hc => h c (by simp [hc])
      simp only [List.filterMap_cons, h1]
      refine ⟨by simp [i1], fun i => ?_⟩
      cases i with
      | zero => simp [h1]
      | succ i => simpa using i2 i
  obtain ⟨hfl, hfg⟩ := hfm l hlone
  let ρ2 : Ren := fun b => if b < σ0.length then ρ1 b else (l[b - σ0.length]?).bind ρ1
  have hρ2 : ∀ b, b < σ0.length → ρ2 b = ρ1 b := fun b hb => if_pos hb
  have hget : ∀ b o, (s.σ.take σ0.length ++ l.filterMap (s.σ[·]?))[b]? = some o → (b < σ0.length ∧ s.σ[b]? = some o ∧ ρ2 b = ρ1 b) ∨ (σ0.length ≤ b ∧ ∃ c, l[b - σ0.length]? = some c ∧ s.σ[c]? = some o ∧ ρ2 b = ρ1 c) := by
    intro b o h
    rw [List.getElem?_append, htl] at h
    split at h
    · rename_i hb
      exact .inl ⟨hb, (htake _ _ h).2, hρ2 b hb⟩
    · rename_i hb
      right
      rw [hfg] at h
      cases hc : l[b - σ0.length]? with
      | none => simp [hc] at h
      | some c =>
        simp only [hc, Option.bind_some] at h
        exact ⟨by omega, c, rfl, h, by simp only [ρ2]; rw [if_neg hb, hc]; rfl⟩
  refine ⟨ρ2, ⟨?_, by simp; omega, fun b hb => (hρ2 b hb).trans (hst.old b hb), hst.ext, ?_, ?_⟩, ?_, ?_⟩
  · intro b x hx
    rcases Nat.lt_or_ge b σ0.length with h | h
    · rw [hρ2 b h]; exact hst.le b x hx
    · rw [hI0.new b h] at hx; cases hx
  · rintro β i hβ ⟨b, r, lo, so, N, h1, h2, h3⟩
    rcases hget b _ h1 with ⟨_, g1, g2⟩ | ⟨_, c, _, g1, g2⟩
    · exact hst.opn β i hβ ⟨b, r, lo, so, N, g1, by rw [← g2]; exact h2, h3⟩
    · exact hst.opn β i hβ ⟨c, r, lo, so, N, g1, by rw [← g2]; exact h2, h3⟩
  · refine ⟨fun b hb => ?_, fun b β so N h => ?_, fun b r lo op β so N h1 h2 => ?_, fun b b' r lo r' lo' op' β so N so' N' hne h1 h2 h3 h4 => ?_⟩
    · simp only [List.length_append, htl, hfl] at hb
      simp only [ρ2]
      rw [if_neg (by omega), List.getElem?_eq_none (by omega)]; rfl
    · simp only [ρ2] at h
      split at h
      · exact hI1.blk _ _ _ _ h
      · cases hc : l[b - σ0.length]? with
        | none => simp [hc] at h
        | some c => simp only [hc, Option.bind_some] at h; exact hI1.blk _ _ _ _ h
    · rcases hget b _ h1 with ⟨hb, g1, g2⟩ | ⟨_, c, g0, g1, g2⟩
      · exact helder ρ2 hρ2 b r lo op β so N hb g1 h2
      · rw [g2] at h2
        obtain ⟨cc, e, fz, k1, k2, k3, k4, k5, k6⟩ := hI1.arr _ _ _ _ _ _ _ g1 h2
        obtain ⟨r1, lo1, op1, q1, q2⟩ := hlone c (List.mem_of_getElem? g0)
        rw [g1] at q1; cases q1
        refine ⟨cc, e, fz, k1, k2, k3, k4, fun i x hx => ?_, k6⟩
        obtain ⟨y, hy, hv⟩ := k5 i x hx
        have hp := List.all_eq_true.1 q2 x (List.mem_of_getElem? hx)
        exact ⟨y, hy, by rw [← plain1_V1 hp hv]; exact .base (.plain hp)⟩
    · have hcase : ∀ b o, (s.σ.take σ0.length ++ l.filterMap (s.σ[·]?))[b]? = some o → ∃ c, s.σ[c]? = some o ∧ ρ2 b = ρ1 c ∧ ((b < σ0.length ∧ c = b) ∨ (σ0.length ≤ b ∧ l[b - σ0.length]? = some c)) := by
        intro b o h
        rcases hget b o h with ⟨g0, g1, g2⟩ | ⟨g3, c, g0, g1, g2⟩
        · exact ⟨b, g1, g2, .inl ⟨g0, rfl⟩⟩
        · exact ⟨c, g1, g2, .inr ⟨g3, g0⟩⟩
      obtain ⟨c, g1, g2, g3⟩ := hcase b _ h1
      obtain ⟨c', k1, k2, k3⟩ := hcase b' _ h2
      rw [g2] at h3
      rw [k2] at h4
      refine hI1.own c c' r lo r' lo' op' β so N so' N' ?_ g1 k1 h3 h4
      rintro rfl
      rcases g3 with ⟨g3, g4⟩ | ⟨g3, g4⟩ <;> rcases k3 with ⟨k3, k4⟩ | ⟨k3, k4⟩
      · omega
      · have := hlge _ (List.mem_of_getElem? k4); omega
      · have := hlge _ (List.mem_of_getElem? g4); omega
      · have h1' := get_lt g4
        have h2' := get_lt k4
        rw [List.getElem?_eq_getElem h1'] at g4
        rw [List.getElem?_eq_getElem h2'] at k4
        have := (List.getElem_inj hnd).1 ((Option.some.inj g4).trans (Option.some.inj k4).symm)
        omega
  · refine hV.ren hnf fun j hj => ?_
    simp only [place]
    split
    · exact hρ2 j ‹_›
    · rename_i hj2
      have hjl : j ∈ l := by rw [← hl]; exact mem_dedup.2 (by simp [hj]; omega)
      have hidx : l.idxOf j < l.length := List.idxOf_lt_length_of_mem hjl
      simp only [ρ2]
      rw [if_neg (by omega), show σ0.length + l.idxOf j - σ0.length = l.idxOf j by omega, List.getElem?_eq_getElem hidx, List.getElem_idxOf hidx]
      rfl
  · refine ⟨by simp; omega, fun i hi _ r lo op hr => ?_⟩
    rcases hget i _ hr with ⟨_, g1, _⟩ | ⟨g0, _⟩
    · exact hP.2 i hi (hev i hi) r lo op g1
    · omega

theorem lk_zip {t : Nat} {v : Value} : ∀ (l : List Value) (k : Nat), lk t ((l.zipIdx k).map fun (v, i) => (i, v)) = some v → k ≤ t ∧ l[t - k]? = some v
  | [], k, h => by simp [lk] at h
  | x :: l, k, h => by
    simp only [List.zipIdx_cons, List.map_cons, lk] at h
    by_cases hk : k = t
    · subst hk
      rw [if_pos rfl] at h
      cases h
      exact ⟨Nat.le_refl _, by simp⟩
    · rw [if_neg hk] at h
      obtain ⟨h1, h2⟩ := lk_zip l (k + 1) h
      refine ⟨by omega, ?_⟩
      rw [show t - k = (t - (k + 1)) + 1 by omega]
      simpa using h2
theorem lk_enter {args : List Value} {t : Nat} {v : Value} (h : lk t (enterFr args) = some v) : args[t]? = some v := by
  simpa using (lk_zip args 0 h).2

/-- What the proof asks of a contract that stands in for a function's text. -/
def StandOk (P : Program) (f : FuncId) (g : List Value → List AObj → Option Out) : Prop := OracleOk P fun f' args σ => if f' = f then g args σ else none

theorem body_sim {C : Oracle} (hC : OracleOk P C) (hN : NamesOk P) {n : Nat} {H : FuncId → Nat → List Nat} : OracleOk P (bodyOf P C (iterN n) H) := by
  intro f args σ v s' h ρ w args' hI hargs
  unfold bodyOf at h
  split at h
  · rename_i fn hfn
    split at h
    · rename_i c hc
      split at h
      · rename_i hnt
        have hlen := hargs.1
        have hF : FrOk ρ (enterFr args) { tmps := args'.toArray ++ Array.replicate (fn.ntmps - args'.toArray.size) undef, defers := [] } := by
          intro t u hu
          have hu' := lk_enter hu
          obtain ⟨y, hy, hv⟩ := hargs.get hu'
          have ht := get_lt hy
          have : (args'.toArray ++ Array.replicate (fn.ntmps - args'.toArray.size) undef).getD t undef = y := by
            rw [Array.getD_eq_getD_getElem?, Array.getElem?_append_left (by simpa using ht)]
            simp [hy]
          simp only [this]; exact hv
        have hsize : (args'.toArray ++ Array.replicate (fn.ntmps - args'.toArray.size) undef).size = fn.ntmps := by simp; omega
        have hmain : ∀ (R : Ending → World → Prop), (∀ v' ρ' w', Step ρ σ w ρ' s'.σ w' → V ρ' v v' → Pres σ s' → R (.returned v') w') → Calls P f args'.toArray w R := by
          intro R hR
          refine calls_of_wp hfn hc ?_
          refine exec_sim hC hN (ρ0 := ρ) (σi := σ) (wi := w) c _ _ _ _ ρ _ _ h (Step.refl hI) (Pres.refl σ) hF hsize rfl ?_
          intro ctl fr' s1 ρ1 a1 w1 hk hst hP hF1 hs1 hd1
          have hk' : ((retV P fn.results.toList fr' s1).bind fun v => some (gc σ.length v s1)) = some (v, s') ∧ (ctl = .norm ∨ ctl = .ret) := by
            cases ctl with
            | norm => exact ⟨hk, .inl rfl⟩
            | ret => exact ⟨hk, .inr rfl⟩
            | exit id => cases hk
          obtain ⟨hk', hctl⟩ := hk'
          simp only [Option.bind_eq_some_iff, Option.some.injEq] at hk'
          obtain ⟨u, hu, hg⟩ := hk'
          obtain ⟨u', hrun, hV⟩ := retV_sim (fn := fn) hst.inv hF1 hu
          obtain ⟨ρ2, g1, g2, g3⟩ := gc_sim hI hst hP hV
          rw [hg] at g1 g2 g3
          rcases hctl with rfl | rfl
          · exact ⟨hd1, u', hrun, hR _ _ _ g1 g2 g3⟩
          · exact ⟨hd1, u', hrun, hR _ _ _ g1 g2 g3⟩
        refine ⟨⟨fn, hfn, by rw [hc]; rfl⟩, hmain _ fun v' ρ' w' h1 h2 _ => ⟨v', ρ', rfl, h1, h2⟩, ?_⟩
        obtain ⟨_, _, _, hp, _⟩ := hmain (fun _ _ => Pres σ s') (fun _ _ _ _ _ h => h) []
        exact hp
      · cases h
    · cases h
  · cases h

/-- **The abstract machine's calls are the model's.** -/
theorem callN_sim (hN : NamesOk P) {X : FuncId → Option (List Value → List AObj → Option Out)} (hX : ∀ f g, X f = some g → StandOk P f g) {H : FuncId → Nat → List Nat} : ∀ n, OracleOk P (callN P X H n)
  | 0 => fun f args σ v s' h => by simp [callN] at h
  | n + 1 => fun f args σ v s' h ρ w args' hI hargs => by
    simp only [callN] at h
    cases hx : X f with
    | some g =>
      rw [hx] at h
      exact hX f g hx f args σ v s' (by simpa using h) ρ w args' hI hargs
    | none =>
      rw [hx] at h
      exact body_sim (callN_sim hN hX n) hN f args σ v s' h ρ w args' hI hargs

end
end Go.Ab
#print axioms Go.Ab.callN_sim
