/-
  The stand-in for slices.AppendSeq(nil, slices.Values(l)) is right wherever the contract holds.
-/
import Derived.Test.YtkpamaplmjlagaaSorted
import Derived.Test.YtkpamaplmjlagaaBridge
namespace Go.Ab
open Go
variable {P : Program}

/-- A block that has come, and a new object for its first cells. -/
theorem step_new {ρ : Ren} {σ : List AObj} {w w' : World} (hI : Inv ρ σ w) (hb : Go.RowKit.Below w.heap.size w w') {g : Nat} {r : List Value} {c : Array Value} {e : TypeId} (hg : w'.heap[g]? = some (.cells c e (0, 0))) (hgw : w.heap.size ≤ g) (hl : r.length ≤ c.size)
    (hr : ∀ (i : Nat) (x : Value), r[i]? = some x → ∃ y, c[i]? = some y ∧ V1 ρ x y) : Step ρ σ w (ρ.snoc σ.length (g, 0, c.size)) (σ ++ [.arr r 0 true]) w' := by
  have hle : ρ.le (ρ.snoc σ.length (g, 0, c.size)) := Ren.snoc_le (hI.new _ (Nat.le_refl _))
  have hold : ∀ (β : Nat) (o : Obj), w.heap[β]? = some o → w'.heap[β]? = some o := fun β o h => (hb.block β (lt_of_get h)).trans h
  have hren : ∀ b β s N, (ρ.snoc σ.length (g, 0, c.size)) b = some (β, s, N) → (b = σ.length ∧ β = g ∧ s = 0 ∧ N = c.size) ∨ (b ≠ σ.length ∧ ρ b = some (β, s, N)) := by
    intro b β s N h
    unfold Ren.snoc at h
    split at h
    · cases h; exact .inl ⟨‹_›, rfl, rfl, rfl⟩
    · exact .inr ⟨‹_›, h⟩
  refine ⟨hle, by simp, fun b hb => by unfold Ren.snoc; rw [if_neg (by omega)], ⟨hb.os, hb.tape, hb.output, hb.size, fun β c' e' fz h => ⟨c', hold _ _ h, rfl, fun _ _ => rfl⟩, fun β o h _ => hold _ _ h⟩, ?_, ?_⟩
  · rintro β i hβ ⟨b, r', lo', s, N, hb, hρ, hi⟩
    rcases hren _ _ _ _ hρ with ⟨h1, h2, h3, h4⟩ | ⟨h1, h2⟩
    · omega
    · rcases snoc_get hb with ⟨_, h4⟩ | ⟨h3, _⟩
      · exact ⟨b, r', lo', s, N, h4, h2, hi⟩
      · exact absurd h3 h1
  · refine ⟨?_, ?_, ?_, ?_⟩
    · intro b hb
      simp at hb
      unfold Ren.snoc
      rw [if_neg (by omega)]
      exact hI.new b (by omega)
    · intro b β s N h
      rcases hren _ _ _ _ h with ⟨h1, h2, h3, h4⟩ | ⟨h1, h2⟩
      · subst h2; exact lt_of_get hg
      · have := hI.blk _ _ _ _ h2; have := hb.size; omega
    · intro b r' lo' op' β s N hb hρ
      rcases hren _ _ _ _ hρ with ⟨h1, h2, h3, h4⟩ | ⟨h1, h2⟩
      · subst h1 h2 h3 h4
        rcases snoc_get hb with ⟨h4, _⟩ | ⟨_, h4⟩
        · omega
        · cases h4
          refine ⟨c, e, (0, 0), hg, rfl, by omega, Nat.zero_le _, fun i x hx => ?_, fun _ i _ _ => by simp⟩
          obtain ⟨y, hy, hv⟩ := hr i x hx
          exact ⟨y, by simpa using hy, hv.mono hle⟩
      · rcases snoc_get hb with ⟨_, h4⟩ | ⟨h3, _⟩
        · obtain ⟨c', e', fz, k1, k2, k3, k4, k5, k6⟩ := hI.arr _ _ _ _ _ _ _ h4 h2
          exact ⟨c', e', fz, hold _ _ k1, k2, k3, k4, fun i x hx => let ⟨y, hy, hv⟩ := k5 i x hx; ⟨y, hy, hv.mono hle⟩, k6⟩
        · exact absurd h3 h1
    · intro b b' r1 lo1 r2 lo2 op2 β s N s' N' hne hb hb' hρ hρ'
      rcases hren _ _ _ _ hρ with ⟨h1, h2, h3, h4⟩ | ⟨h1, h2⟩
      · rcases hren _ _ _ _ hρ' with ⟨k1, _⟩ | ⟨k1, k2⟩
        · omega
        · have := hI.blk _ _ _ _ k2; omega
      · rcases hren _ _ _ _ hρ' with ⟨k1, k2, _⟩ | ⟨k1, k2⟩
        · have := hI.blk _ _ _ _ h2; omega
        · rcases snoc_get hb with ⟨_, h4⟩ | ⟨h3, _⟩
          · rcases snoc_get hb' with ⟨_, k4⟩ | ⟨k3, _⟩
            · exact hI.own _ _ _ _ _ _ _ _ _ _ _ _ hne h4 k4 h2 k2
            · exact absurd k3 k1
          · exact absurd h3 h1

/-- A cell of an object lies in the world. -/
theorem cell_there {ρ : Ren} {σ : List AObj} {w : World} (hI : Inv ρ σ w) {b i : Nat} {r : List Value} {x : Value} (hr : row ⟨σ, []⟩ b = some r) (hx : r[i]? = some x) {β s N : Nat} (hρ : ρ b = some (β, s, N)) : ∃ y, w.cell? ⟨β, s + i, none⟩ = some y ∧ V1 ρ x y := by
  unfold row at hr
  split at hr
  · rename_i c lo op hb
    cases hr
    obtain ⟨c', e, fz, k1, k2, k3, k4, k5, k6⟩ := hI.arr _ _ _ _ _ _ _ hb hρ
    obtain ⟨y, hy, hv⟩ := k5 i x hx
    exact ⟨y, by simp [World.cell?, k1, hy], hv⟩
  · cases hr

theorem append_stand {fa fv e : Nat} (hbody : ∃ fn, P.funcs[fa]? = some fn ∧ fn.body.isSome)
    (hc : ∀ (Bs Bo b off cap : Nat) (zs : List Int), zs.length ≤ maxLen → zs.length * 2 ≤ 140737488351232 → ∀ w : World, Bs < w.heap.size → b < w.heap.size → w.cell? ⟨Bs, Bo, none⟩ = some (.slice (some ⟨b, off, none⟩) zs.length cap) →
      (∀ j, j < zs.length → w.cell? ⟨b, off + j, none⟩ = some (.int .u16 (zs[j]?.getD 0))) →
      Calls P fa #[.slice none 0 0, .func (.func fv) #[] #[.pointer (some ⟨Bs, Bo, none⟩)]] w fun e' W' => ∃ v, e' = .returned v ∧ W'.ownsRow w.heap.size e 1 v zs.length (zs.map (Value.int .u16)) ∧ (v = .slice none 0 0 ↔ zs = []) ∧ Go.RowKit.Below w.heap.size w W') :
    StandOk P fa (appendX fv) := by
  intro f' args σ v s' h ρ w args' hI hargs
  simp only at h
  split at h
  · rename_i hf
    subst hf
    unfold appendX at h
    split at h
    · rename_i σ' g first captured
      split at h
      · rename_i hg
        obtain ⟨rfl, rfl⟩ := hg
        split at h
        · rename_i b o hcap
          split at h
          · rename_i b1 o1 n c hv
            split at h
            · rename_i hcn
              simp only [Option.bind_eq_some_iff] at h hv
              obtain ⟨r0, hr0, hv⟩ := hv
              obtain ⟨r, hr, h⟩ := h
              split at h
              · rename_i hlen
                simp only [Option.bind_eq_some_iff] at h
                obtain ⟨zs, hz, h⟩ := h
                cases h
                -- the arguments
                obtain ⟨a0, args1, rfl⟩ := hargs.left
                obtain ⟨ha0, hargs1⟩ := hargs.cons_inv
                obtain ⟨a1, args2, rfl⟩ := hargs1.left
                obtain ⟨ha1, hargs2⟩ := hargs1.cons_inv
                have : args2 = [] := List.eq_nil_of_length_eq_zero (by have := hargs2.1; simpa using this.symm)
                subst this
                have : Value.slice none 0 0 = a0 := plain_V rfl ha0
                subst this
                obtain ⟨β, s, N, hρ, rfl⟩ : ∃ β s N, ρ b = some (β, s, N) ∧ a1 = .func (.func g) #[] #[.pointer (some ⟨β, s + o, none⟩)] := by
                  cases ha1 with
                  | val ha1 => cases ha1 with
                    | cell ha1 => cases ha1 with
                      | base ha1 => cases ha1 with
                        | plain hp => simp [plain1] at hp
                      | func hx hy =>
                        rename_i x y
                        have hx0 : x = #[] := by have := hx.1; simpa using this.symm
                        rw [hcap] at hy
                        obtain ⟨y0, y1, he⟩ := hy.left
                        rw [he] at hy
                        obtain ⟨hp, hy1⟩ := hy.cons_inv
                        have : y1 = [] := List.eq_nil_of_length_eq_zero (by have := hy1.1; simpa using this.symm)
                        subst this
                        cases hp with
                        | plain hp => simp [plain1] at hp
                        | ptr hρ => exact ⟨_, _, _, hρ, by rw [hx0]; congr 1; apply Array.ext'; simpa using he⟩
                obtain ⟨y, hy, hvy⟩ := cell_there hI hr0 hv hρ
                have hbβ : β < w.heap.size := hI.blk _ _ _ _ hρ
                obtain ⟨β1, s1, N1, c1, hρ1, rfl⟩ : ∃ β1 s1 N1 c1, ρ b1 = some (β1, s1, N1) ∧ y = .slice (some ⟨β1, s1 + o1, none⟩) (n + 1) c1 := by
                  cases hvy with
                  | base hvy =>
                    generalize hq : Value.slice (some ⟨b1, o1, none⟩) (n + 1) c = q at hvy
                    cases hvy with
                    | plain hp => subst hq; simp [plain1] at hp
                    | ptr _ => cases hq
                    | map _ => cases hq
                    | slice hρ1 hn hf hcc ha =>
                      cases hq
                      rcases ha with ha | ha
                      · omega
                      · subst ha; exact ⟨_, _, _, _, hρ1, rfl⟩
                have hzl : zs.length = n + 1 := by
                  have := congrArg List.length (u16s_some hz)
                  simp at this; omega
                refine ⟨hbody, ?_, ⟨by simp, fun i hi he r1 lo1 op1 hr1 => ?_⟩⟩
                · refine (hc β (s + o) β1 (s1 + o1) c1 zs (by rw [hzl]; unfold maxLen; omega) (by omega) w hbβ (hI.blk _ _ _ _ hρ1) (by rw [hzl]; exact hy) fun j hj => ?_).mono ?_
                  · have hrj : r[o1 + j]? = some (.int .u16 (zs[j]?.getD 0)) := by
                      have h1 : ((r.drop o1).take (n + 1))[j]? = some (.int .u16 (zs[j]?.getD 0)) := by
                        rw [u16s_some hz, List.getElem?_map, List.getElem?_eq_getElem hj]; rfl
                      rw [List.getElem?_take, if_pos (by omega), List.getElem?_drop] at h1
                      exact h1
                    obtain ⟨u, hu, hvu⟩ := cell_there hI hr hrj hρ1
                    have := plain1_V1 rfl hvu
                    subst this
                    rw [Nat.add_assoc]; exact hu
                  · rintro e' w' ⟨v', rfl, hown, hnil, hb⟩
                    rcases hown.2 with ⟨_, h0⟩ | ⟨g', cap', cur, rfl, hgb, hgc, h1, h2, h3, h4⟩
                    · omega
                    · refine ⟨_, ρ.snoc σ.length (g', 0, cur.size), rfl, step_new hI hb hgc hgb (by simp; omega) (fun i x hx => ?_), .val (.cell (.base ?_))⟩
                      · have hi := get_lt hx
                        simp only [List.length_map] at hi
                        have h5 : (cur.toList.take (zs.length * 1))[i]? = some x := by rw [h4]; exact hx
                        rw [List.getElem?_take, if_pos (by omega)] at h5
                        refine ⟨x, by simpa using h5, .base (.plain ?_)⟩
                        rw [List.getElem?_map, Option.map_eq_some_iff] at hx
                        obtain ⟨_, _, rfl⟩ := hx; rfl
                      · rw [hzl]
                        exact .slice (s := 0) (o := 0) (Ren.snoc_self _ _ _) (by omega) (.inl rfl) (by omega) (.inr rfl)
                · rcases snoc_get hr1 with ⟨_, h1⟩ | ⟨h1, _⟩
                  · exact ⟨r1, lo1, op1, h1, fun x hx => .inl hx⟩
                  · omega
              · cases h
            · cases h
          · cases h
        · cases h
      · cases h
    · cases h
  · cases h
end Go.Ab
