/-
  Slices, parts, literals, appends: the model's operations go with the abstract machine's.
-/
import Derived.Test.YtkpamaplmjlagaaOps
namespace Go.Ab
open Go

section
variable {P : Program} {w : World}

/-- Optional operands alike. -/
def VO (ρ : Ren) : Option Value → Option Value → Prop
  | none, none => True
  | some v, some v' => V ρ v v'
  | _, _ => False

theorem bnd_eq {ρ : Ren} {d l : Nat} {x x' : Option Value} (h : bnd d x = some l) (hx : VO ρ x x') : x' = x := by
  cases x with
  | none => cases x' with
    | none => rfl
    | some => exact hx.elim
  | some v =>
    cases x' with
    | none => exact hx.elim
    | some v' =>
      unfold bnd at h
      split at h
      · rename_i heq; cases heq
      · rename_i k i heq; cases heq; rw [int_inv hx]
      · cases h
theorem bnd_run {d y l : Nat} {v : Value} {code : BoundsCode} (h : bnd d (some v) = some l) (hl : l ≤ y) : (Instr.sliceBound v y code).run P w = .ok l w := by
  unfold bnd at h
  split at h
  · rename_i heq; cases heq
  · rename_i k i heq
    cases heq
    split at h
    · rename_i hi
      cases h
      have : i ≤ (y : Int) := by omega
      simp [Instr.sliceBound, asIntOf, hi, this]
    · cases h
  · cases h

theorem sb_run {isS : Bool} {len cap l h m : Nat} {lo hi mx : Option Value} (hl : bnd 0 lo = some l) (hh : bnd len hi = some h) (hm : match mx with | none => m = cap | some v => bnd 0 (some v) = some m ∧ hi.isSome) (h1 : l ≤ h) (h2 : h ≤ m) (h3 : m ≤ cap) :
    (Instr.sliceBounds isS len cap lo hi mx).run P w = .ok (l, h, m) w := by
  cases lo with
  | none =>
    have e1 : l = 0 := by simpa [bnd] using hl.symm
    cases hi with
    | none =>
      have e2 : h = len := by simpa [bnd] using hh.symm
      cases mx with
      | none => simp only at hm; subst e1 e2 hm; simp [Instr.sliceBounds]
      | some v => exact absurd hm.2 (by simp)
    | some u =>
      cases mx with
      | none => simp only at hm; subst e1 hm; simp [Instr.sliceBounds, bnd_run (P := P) (w := w) hh h2]
      | some v => subst e1; simp [Instr.sliceBounds, bnd_run (P := P) (w := w) hh h2, bnd_run (P := P) (w := w) hm.1 h3]
  | some x =>
    cases hi with
    | none =>
      have e2 : h = len := by simpa [bnd] using hh.symm
      cases mx with
      | none => simp only at hm; subst e2 hm; simp [Instr.sliceBounds, bnd_run (P := P) (w := w) hl h1]
      | some v => exact absurd hm.2 (by simp)
    | some u =>
      cases mx with
      | none => simp only at hm; subst hm; simp [Instr.sliceBounds, bnd_run (P := P) (w := w) hh h2, bnd_run (P := P) (w := w) hl h1]
      | some v => simp [Instr.sliceBounds, bnd_run (P := P) (w := w) hh h2, bnd_run (P := P) (w := w) hm.1 h3, bnd_run (P := P) (w := w) hl h1]

theorem bnd_some {d d' : Nat} {v : Value} : bnd d (some v) = bnd d' (some v) := by unfold bnd; cases v <;> rfl

theorem sliceArr_sim {ρ : Ren} {s : S} (hI : Inv ρ s.σ w) {n z : Nat} {e : TypeId} {t : TypeId} {x x' v : Value} {lo lo' hi hi' mx mx' : Option Value} (hu : P.underlying t = some (.array n e)) (hz : sizeT P e = some z)
    (h : sliceArr n z s lo hi mx x = some v) (hx : V ρ x x') (hlo : VO ρ lo lo') (hhi : VO ρ hi hi') (hmx : VO ρ mx mx') : ∃ v', (Instr.sliceAt t x' lo' hi' mx').run P w = .ok v' w ∧ V ρ v v' := by
  unfold sliceArr at h
  split at h
  · rename_i b o
    obtain ⟨β, so, N, hρ, rfl⟩ := ptr_inv hx
    cases hr : row s b with
    | none => simp [hr] at h
    | some c =>
      cases h1 : bnd 0 lo with
      | none => simp [hr, h1] at h
      | some l =>
        cases h2 : bnd n hi with
        | none => simp [hr, h1, h2] at h
        | some hh =>
          cases h3 : bnd n mx with
          | none => simp [hr, h1, h2, h3] at h
          | some m =>
            simp only [hr, h1, h2, h3, Option.bind_some] at h
            split at h
            · rename_i hc
              cases h
              obtain ⟨c1, c2, c3, c4, c5⟩ := hc
              obtain rfl := bnd_eq h1 hlo
              obtain rfl := bnd_eq h2 hhi
              obtain rfl := bnd_eq h3 hmx
              obtain ⟨lo0, op, hb⟩ := row_some hr
              obtain ⟨cc, ee, fz, k1, k2, k3, k4, k5, k6⟩ := hI.arr _ _ _ _ _ _ _ hb hρ
              have hrun := sb_run (P := P) (w := w) (isS := false) (len := n) (cap := n) h1 h2 (m := m) (mx := mx') (by
                cases mx' with
                | none => simp only; simpa [bnd] using h3.symm
                | some u => exact ⟨by rw [bnd_some (d' := n)]; exact h3, by cases hi' with
                  | none => simp at c5
                  | some => rfl⟩) c1 c2 c3
              refine ⟨_, by simp [Instr.sliceAt, run_underlying hu, Instr.sureAddr, hrun, run_sizeOf hz]; rfl, ?_⟩
              have hmul : l * z + (m - l) * z = m * z := by rw [← Nat.add_mul]; congr 1; omega
              have hmul2 : m * z ≤ n * z := Nat.mul_le_mul_right _ c3
              refine .val (.cell (.base (.slice hρ (by omega) ?_ (by omega) ?_)))
              · split
                · right; exact ⟨rfl, by omega⟩
                · left; rfl
              · by_cases hml : m = l
                · left; omega
                · right; rw [if_neg hml, addr_add, Nat.add_assoc]
            · cases h
  · cases h

theorem sliceSl_sim {ρ : Ren} {z : Nat} {e t : TypeId} {x x' v : Value} {lo lo' hi hi' mx mx' : Option Value} (hu : P.underlying t = some (.slice e)) (hz : sizeT P e = some z)
    (h : sliceSl z lo hi mx x = some v) (hx : V ρ x x') (hlo : VO ρ lo lo') (hhi : VO ρ hi hi') (hmx : VO ρ mx mx') : ∃ v', (Instr.sliceAt t x' lo' hi' mx').run P w = .ok v' w ∧ V ρ v v' := by
  unfold sliceSl at h
  split at h
  · rename_i b o n c
    split at h
    · rename_i hk
      obtain ⟨k', f, β, s, N, c', a, hc, hρ, g1, g2, g3, g4, rfl⟩ := sl_inv hx
      have hkk : k' = z := by omega
      subst hkk
      cases h1 : bnd 0 lo with
      | none => simp [h1] at h
      | some l =>
        cases h2 : bnd n hi with
        | none => simp [h1, h2] at h
        | some hh =>
          simp only [h1, h2, Option.bind_some] at h
          obtain rfl := bnd_eq h1 hlo
          obtain rfl := bnd_eq h2 hhi
          split at h
          · rename_i m0
            cases h3 : bnd n (some m0) with
            | none => simp [h3] at h
            | some m =>
              simp only [h3, Option.bind_some] at h
              split at h
              · rename_i hcnd
                cases h
                obtain ⟨c1, c2, c3, c4⟩ := hcnd
                obtain rfl := bnd_eq h3 hmx
                have hrun := sb_run (P := P) (w := w) (isS := true) (len := n) (cap := c') h1 h2 (m := m) (mx := some m0) ⟨by rw [bnd_some (d' := n)]; exact h3, c4⟩ c1 c2 (by omega)
                refine ⟨_, by simp [Instr.sliceAt, Instr.slice, run_underlying hu, hrun, run_sizeOf hz]; rfl, ?_⟩
                have hmul : l * k' + (m - l) * k' = m * k' := by rw [← Nat.add_mul]; congr 1; omega
                have hmul2 : m * k' ≤ c' * k' := Nat.mul_le_mul_right _ (by omega)
                by_cases hml : m = l
                · subst hml
                  simp only [if_true]
                  refine .val (.cell (.base (.slice hρ (by omega) ?_ (by omega) (.inl (by omega)))))
                  split
                  · right; exact ⟨rfl, by omega⟩
                  · left; rfl
                · have hc0 : c' ≠ 0 := by omega
                  obtain rfl := g4.resolve_left hc0
                  simp only [if_neg hml, addr_add]
                  refine .val (.cell (.base (.slice hρ (by omega) ?_ (by omega) (.inr (by rw [Nat.add_assoc])))))
                  split
                  · right; exact ⟨rfl, by omega⟩
                  · left; rfl
              · cases h
          · split at h
            · rename_i hcnd
              cases h
              obtain ⟨c1, c2⟩ := hcnd
              cases mx' with
              | some _ => exact hmx.elim
              | none =>
                have hrun := sb_run (P := P) (w := w) (isS := true) (len := n) (cap := c') h1 h2 (m := c') (mx := none) rfl c1 (by omega) (Nat.le_refl _)
                refine ⟨_, by simp [Instr.sliceAt, Instr.slice, run_underlying hu, hrun, run_sizeOf hz]; rfl, ?_⟩
                have hmul : l * k' + (c' - l) * k' = c' * k' := by rw [← Nat.add_mul]; congr 1; omega
                by_cases hml : c' = l
                · subst hml
                  simp only [if_true]
                  refine .val (.cell (.base (.slice hρ (by omega) ?_ (by omega) (.inl (by omega)))))
                  split
                  · right; exact ⟨rfl, by omega⟩
                  · left; rfl
                · have hc0 : c' ≠ 0 := by omega
                  obtain rfl := g4.resolve_left hc0
                  simp only [if_neg hml, addr_add]
                  refine .val (.cell (.base (.slice hρ (by omega) ?_ (by omega) (.inr (by rw [Nat.add_assoc])))))
                  split
                  · rename_i hx'
                    right; refine ⟨rfl, ?_⟩
                    rcases g2 with g2 | g2
                    · omega
                    · omega
                  · left; rfl
            · cases h
    · cases h
  · obtain rfl := nils_inv hx
    cases h1 : bnd 0 lo with
    | none => simp [h1] at h
    | some l =>
      cases h2 : bnd 0 hi with
      | none => simp [h1, h2] at h
      | some hh =>
        cases h3 : bnd 0 mx with
        | none => simp [h1, h2, h3] at h
        | some m =>
          simp only [h1, h2, h3, Option.bind_some] at h
          split at h
          · rename_i hc
            cases h
            obtain ⟨c1, c2, c3, c4⟩ := hc
            obtain rfl := bnd_eq h1 hlo
            obtain rfl := bnd_eq h2 hhi
            obtain rfl := bnd_eq h3 hmx
            have hrun := sb_run (P := P) (w := w) (isS := true) (len := 0) (cap := 0) h1 h2 (m := m) (mx := mx') (by
              cases mx' with
              | none => exact c3
              | some u => exact ⟨h3, by cases hi' with
                | none => simp at c4
                | some => rfl⟩) (by omega) (by omega) (by omega)
            subst c1 c2 c3
            exact ⟨.slice none 0 0, by simp [Instr.sliceAt, Instr.slice, run_underlying hu, hrun, run_sizeOf hz], V_of_plain rfl⟩
          · cases h
  · cases h

theorem VO_plain {ρ : Ren} {x x' : Option Value} (hp : x.all plain = true) (h : VO ρ x x') : x' = x := by
  cases x with
  | none => cases x' with
    | none => rfl
    | some => exact h.elim
  | some v => cases x' with
    | none => exact h.elim
    | some v' => rw [plain_V (by simpa using hp) h]

/-- What the model makes of plain values is of one cell, or a row of plain ones: told by the check that is run on it. -/
theorem slice_sim {ρ : Ren} {s : S} (hI : Inv ρ s.σ w) {t : TypeId} {x x' v : Value} {lo lo' hi hi' mx mx' : Option Value}
    (h : pSlice P t s x lo hi mx = some v) (hx : V ρ x x') (hlo : VO ρ lo lo') (hhi : VO ρ hi hi') (hmx : VO ρ mx mx') : ∃ v', (Instr.sliceAt t x' lo' hi' mx').run P w = .ok v' w ∧ V ρ v v' := by
  unfold pSlice at h
  split at h
  · rename_i n e hu
    cases hz : sizeT P e with
    | none => simp [hz] at h
    | some z => simp only [hz, Option.bind_some] at h; exact sliceArr_sim hI hu hz h hx hlo hhi hmx
  · rename_i e hu
    cases hz : sizeT P e with
    | none => simp [hz] at h
    | some z => simp only [hz, Option.bind_some] at h; exact sliceSl_sim hu hz h hx hlo hhi hmx
  · rename_i hu
    split at h
    · rename_i hc
      simp only [Bool.and_eq_true] at hc
      obtain ⟨⟨⟨c1, c2⟩, c3⟩, c4⟩ := hc
      obtain rfl := plain_V c1 hx
      obtain rfl := VO_plain c2 hlo
      obtain rfl := VO_plain c3 hhi
      have hm : mx = none := by simpa using c4
      subst hm
      have hm' : mx' = none := by cases mx' with
        | none => rfl
        | some => exact hmx.elim
      subst hm'
      obtain ⟨h1, h2⟩ := quietP_run (w := w) h
      exact ⟨_, by simp [Instr.sliceAt, run_underlying hu, h1], V_of_plain h2⟩
    · cases h
  · cases h

end
end Go.Ab
