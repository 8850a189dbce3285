/-
  What keeps the tie between abstract objects and blocks: a new block, a write, an append in place, a seal.
-/
import Derived.Test.YtkpamaplmjlagaaRel
namespace Go.Ab
open Go

/-- 'ρ' with one object more. -/
def Ren.snoc (ρ : Ren) (n : Nat) (x : Nat × Nat × Nat) : Ren := fun b => if b = n then some x else ρ b
theorem Ren.snoc_le {ρ : Ren} {n : Nat} {x : Nat × Nat × Nat} (h : ρ n = none) : ρ.le (ρ.snoc n x) := fun b y hb => by
  unfold Ren.snoc
  split
  · subst_vars; rw [h] at hb; cases hb
  · exact hb
theorem Ren.snoc_self (ρ : Ren) (n : Nat) (x : Nat × Nat × Nat) : ρ.snoc n x n = some x := by simp [Ren.snoc]

theorem get_lt {α : Type} {a : List α} {i : Nat} {x : α} (h : a[i]? = some x) : i < a.length := by
  rcases Nat.lt_or_ge i a.length with h' | h'
  · exact h'
  · rw [List.getElem?_eq_none h'] at h; cases h

theorem snoc_get {σ : List AObj} {x o : AObj} {b : Nat} (h : (σ ++ [x])[b]? = some o) : (b < σ.length ∧ σ[b]? = some o) ∨ (b = σ.length ∧ o = x) := by
  rw [List.getElem?_append] at h
  split at h
  · exact .inl ⟨‹_›, h⟩
  · right
    have hb : b - σ.length = 0 := by
      rcases Nat.eq_zero_or_pos (b - σ.length) with h0 | h0
      · exact h0
      · rw [List.getElem?_eq_none (by simp; omega)] at h; cases h
    rw [hb] at h
    simp at h
    exact ⟨by omega, h.symm⟩

/-- A new block of cells, and a new object for its first cells. -/
theorem inv_new {ρ : Ren} {σ : List AObj} {w : World} (hI : Inv ρ σ w) {r : List Value} {c : Array Value} (e : TypeId) (lo : Nat) (op : Bool) (hlo : lo ≤ r.length) (hl : r.length ≤ c.size)
    (hr : ∀ (i : Nat) (x : Value), r[i]? = some x → ∃ y, c[i]? = some y ∧ V1 ρ x y) :
    Step ρ σ w (ρ.snoc σ.length (w.heap.size, 0, c.size)) (σ ++ [.arr r lo op]) (w.alloc (.cells c e)) := by
  have hle : ρ.le (ρ.snoc σ.length (w.heap.size, 0, c.size)) := Ren.snoc_le (hI.new _ (Nat.le_refl _))
  have hold : ∀ (β : Nat) (o : Obj), w.heap[β]? = some o → (w.alloc (.cells c e)).heap[β]? = some o := fun β o h => by
    show (w.heap.push _)[β]? = _
    rw [Array.getElem?_push, if_neg (by have := lt_of_get h; omega)]; exact h
  have hren : ∀ b β s N, (ρ.snoc σ.length (w.heap.size, 0, c.size)) b = some (β, s, N) → (b = σ.length ∧ β = w.heap.size ∧ s = 0 ∧ N = c.size) ∨ (b ≠ σ.length ∧ ρ b = some (β, s, N)) := by
    intro b β s N h
    unfold Ren.snoc at h
    split at h
    · cases h; exact .inl ⟨‹_›, rfl, rfl, rfl⟩
    · exact .inr ⟨‹_›, h⟩
  refine ⟨hle, by simp, fun b hb => by unfold Ren.snoc; rw [if_neg (by omega)], ⟨rfl, rfl, rfl, by simp, fun β c' e' fz h => ⟨c', hold _ _ h, rfl, fun _ _ => rfl⟩, fun β o h _ => hold _ _ h⟩, ?_, ?_⟩
  · rintro β i hβ ⟨b, r', lo', s, N, hb, hρ, hi⟩
    rcases hren _ _ _ _ hρ with ⟨h1, h2, h3, h4⟩ | ⟨h1, h2⟩
    · omega
    · rcases snoc_get hb with ⟨_, h4⟩ | ⟨h3, _⟩
      · exact ⟨b, r', lo', s, N, h4, h2, hi⟩
      · exact absurd h3 h1
  · refine ⟨?_, ?_, ?_, ?_⟩
    · intro b hb
      simp at hb
      unfold Ren.snoc
      rw [if_neg (by omega)]
      exact hI.new b (by omega)
    · intro b β s N h
      rcases hren _ _ _ _ h with ⟨h1, h2, h3, h4⟩ | ⟨h1, h2⟩
      · simp; omega
      · have := hI.blk _ _ _ _ h2; simp; omega
    · intro b r' lo' op' β s N hb hρ
      rcases hren _ _ _ _ hρ with ⟨h1, h2, h3, h4⟩ | ⟨h1, h2⟩
      · subst h1 h2 h3 h4
        rcases snoc_get hb with ⟨h4, _⟩ | ⟨_, h4⟩
        · omega
        · cases h4
          refine ⟨c, e, (0, 0), ?_, rfl, by omega, hlo, fun i x hx => ?_, fun _ i _ _ => by simp⟩
          · show (w.heap.push _)[_]? = _
            simp
          · obtain ⟨y, hy, hv⟩ := hr i x hx
            exact ⟨y, by simpa using hy, hv.mono hle⟩
      · rcases snoc_get hb with ⟨_, h4⟩ | ⟨h3, _⟩
        · obtain ⟨c', e', fz, k1, k2, k3, k4, k5, k6⟩ := hI.arr _ _ _ _ _ _ _ h4 h2
          exact ⟨c', e', fz, hold _ _ k1, k2, k3, k4, fun i x hx => let ⟨y, hy, hv⟩ := k5 i x hx; ⟨y, hy, hv.mono hle⟩, k6⟩
        · exact absurd h3 h1
    · intro b b' r1 lo1 r2 lo2 op2 β s N s' N' hne hb hb' hρ hρ'
      rcases hren _ _ _ _ hρ with ⟨h1, h2, h3, h4⟩ | ⟨h1, h2⟩
      · rcases hren _ _ _ _ hρ' with ⟨k1, _⟩ | ⟨k1, k2⟩
        · omega
        · have := hI.blk _ _ _ _ k2; omega
      · rcases hren _ _ _ _ hρ' with ⟨k1, k2, _⟩ | ⟨k1, k2⟩
        · have := hI.blk _ _ _ _ h2; omega
        · rcases snoc_get hb with ⟨_, h4⟩ | ⟨h3, _⟩
          · rcases snoc_get hb' with ⟨_, k4⟩ | ⟨k3, _⟩
            · exact hI.own _ _ _ _ _ _ _ _ _ _ _ _ hne h4 k4 h2 k2
            · exact absurd k3 k1
          · exact absurd h3 h1

theorem set_get {σ : List AObj} {x o : AObj} {b b' : Nat} (h : (σ.set b x)[b']? = some o) : (b' = b ∧ o = x) ∨ (b' ≠ b ∧ σ[b']? = some o) := by
  rw [List.getElem?_set] at h
  split at h
  · subst_vars
    split at h
    · cases h; exact .inl ⟨rfl, rfl⟩
    · cases h
  · exact .inr ⟨by omega, h⟩

/-- Cells of an open object are written. -/
theorem inv_write {ρ : Ren} {σ : List AObj} {w : World} (hI : Inv ρ σ w) {b lo β s N : Nat} {r r' : List Value} {c c' : Array Value} {e : TypeId} {fz : Nat × Nat}
    (hb : σ[b]? = some (.arr r lo true)) (hρ : ρ b = some (β, s, N)) (hc : w.heap[β]? = some (.cells c e fz)) (hl : r'.length = r.length) (hs : c'.size = c.size)
    (hr : ∀ (i : Nat) (x : Value), r'[i]? = some x → ∃ y, c'[s + i]? = some y ∧ V1 ρ x y) (hk : ∀ (i : Nat), i < s + lo → c'[i]? = c[i]?) {w' : World}
    (hw : w'.heap = w.heap.setIfInBounds β (.cells c' e fz)) (hos : w'.os = w.os) (ht : w'.tape = w.tape) (ho : w'.output = w.output) :
    Step ρ σ w ρ (σ.set b (.arr r' lo true)) w' := by
  have hget : ∀ (β' : Nat), w'.heap[β']? = if β' = β then some (.cells c' e fz) else w.heap[β']? := by
    intro β'
    rw [hw, Array.getElem?_setIfInBounds]
    have := lt_of_get hc
    by_cases h : β = β'
    · subst h; simp [this]
    · rw [if_neg h, if_neg (by omega)]
  obtain ⟨c0, e0, fz0, k1, k2, k3, k4, k5, k6⟩ := hI.arr _ _ _ _ _ _ _ hb hρ
  rw [hc] at k1; cases k1
  have hopn : ∀ β' i, Openc ρ (σ.set b (.arr r' lo true)) β' i → Openc ρ σ β' i := by
    rintro β' i ⟨b', r1, lo1, s1, N1, h1, h2, h3⟩
    rcases set_get h1 with ⟨rfl, h4⟩ | ⟨_, h4⟩
    · cases h4; exact ⟨b', r, lo, s1, N1, hb, h2, h3⟩
    · exact ⟨b', r1, lo1, s1, N1, h4, h2, h3⟩
  refine ⟨Ren.le.refl _, by simp, fun _ _ => rfl, ⟨hos, ht, ho, by rw [hw]; simp, ?_, ?_⟩, fun β' i _ h => hopn β' i h, ?_⟩
  · intro β' c1 e1 fz1 h
    rw [hget]
    by_cases hβ : β' = β
    · subst hβ
      rw [hc] at h; cases h
      refine ⟨c', by simp, hs, fun i hi => hk i ?_⟩
      rcases Nat.lt_or_ge i (s + lo) with h | h
      · exact h
      · exact absurd ⟨b, r, lo, s, N, hb, hρ, h⟩ hi
    · rw [if_neg hβ]; exact ⟨c1, h, rfl, fun _ _ => rfl⟩
  · intro β' o h hn
    rw [hget]
    by_cases hβ : β' = β
    · subst hβ; rw [hc] at h; cases h; exact absurd rfl (hn _ _ _)
    · rw [if_neg hβ]; exact h
  · refine ⟨fun b' h => hI.new b' (by simpa using h), fun b' β' s' N' h => by rw [hw]; simpa using hI.blk _ _ _ _ h, ?_, ?_⟩
    · intro b' r1 lo1 op1 β1 s1 N1 h1 h2
      rcases set_get h1 with ⟨rfl, h4⟩ | ⟨hne, h4⟩
      · cases h4
        rw [hρ] at h2; cases h2
        exact ⟨c', e, fz, by rw [hget]; simp, by omega, by omega, by omega, hr, k6⟩
      · obtain ⟨c1, e1, fz1, m1, m2, m3, m4, m5, m6⟩ := hI.arr _ _ _ _ _ _ _ h4 h2
        by_cases hβ : β1 = β
        · subst hβ
          rw [hc] at m1; cases m1
          have hown := (hI.own b b' r lo r1 lo1 op1 β1 s N s1 N1 (by omega) hb h4 hρ h2).2
          refine ⟨c', e, fz, by rw [hget]; simp, by omega, by omega, m4, fun i x hx => ?_, m6⟩
          obtain ⟨y, hy, hv⟩ := m5 i x hx
          exact ⟨y, by rw [hk _ (by have := get_lt hx; omega)]; exact hy, hv⟩
        · exact ⟨c1, e1, fz1, by rw [hget, if_neg hβ]; exact m1, m2, m3, m4, m5, m6⟩
    · intro b1 b2 r1 lo1 r2 lo2 op2 β1 s1 N1 s2 N2 hne h1 h2 h3 h4
      rcases set_get h1 with ⟨rfl, h5⟩ | ⟨hn1, h5⟩
      · cases h5
        rcases set_get h2 with ⟨rfl, _⟩ | ⟨_, h6⟩
        · exact absurd rfl hne
        · exact hI.own _ _ _ _ _ _ _ _ _ _ _ _ hne hb h6 h3 h4
      · rcases set_get h2 with ⟨rfl, h6⟩ | ⟨_, h6⟩
        · cases h6
          have := hI.own _ _ _ _ _ _ _ _ _ _ _ _ hne h5 hb h3 h4
          exact absurd this.1 (by simp)
        · exact hI.own _ _ _ _ _ _ _ _ _ _ _ _ hne h5 h6 h3 h4

/-- An object is sealed. -/
theorem inv_seal {ρ : Ren} {σ : List AObj} {w : World} (hI : Inv ρ σ w) {b lo : Nat} {op : Bool} {r : List Value} (hb : σ[b]? = some (.arr r lo op)) : Step ρ σ w ρ (σ.set b (.arr r lo false)) w := by
  refine ⟨Ren.le.refl _, by simp, fun _ _ => rfl, Ext.refl _ _ _, ?_, ⟨fun b' h => hI.new b' (by simpa using h), hI.blk, ?_, ?_⟩⟩
  · rintro β' i _ ⟨b', r1, lo1, s1, N1, h1, h2, h3⟩
    rcases set_get h1 with ⟨rfl, h4⟩ | ⟨_, h4⟩
    · cases h4
    · exact ⟨b', r1, lo1, s1, N1, h4, h2, h3⟩
  · intro b' r1 lo1 op1 β1 s1 N1 h1 h2
    rcases set_get h1 with ⟨rfl, h4⟩ | ⟨hne, h4⟩
    · cases h4
      obtain ⟨c1, e1, fz1, m1, m2, m3, m4, m5, m6⟩ := hI.arr _ _ _ _ _ _ _ hb h2
      exact ⟨c1, e1, fz1, m1, m2, m3, m4, m5, fun h => by cases h⟩
    · exact hI.arr _ _ _ _ _ _ _ h4 h2
  · intro b1 b2 r1 lo1 r2 lo2 op2 β1 s1 N1 s2 N2 hne h1 h2 h3 h4
    rcases set_get h1 with ⟨rfl, h5⟩ | ⟨hn1, h5⟩
    · cases h5
    · rcases set_get h2 with ⟨rfl, h6⟩ | ⟨_, h6⟩
      · cases h6
        exact ⟨rfl, (hI.own _ _ _ _ _ _ _ _ _ _ _ _ hne h5 hb h3 h4).2⟩
      · exact hI.own _ _ _ _ _ _ _ _ _ _ _ _ hne h5 h6 h3 h4

/-- An append in place: the new object lies in the elder one's block. -/
theorem inv_grow {ρ : Ren} {σ : List AObj} {w : World} (hI : Inv ρ σ w) {b lo β s N o : Nat} {r new : List Value} {c c' : Array Value} {e : TypeId} {fz : Nat × Nat}
    (hb : σ[b]? = some (.arr r lo true)) (hρ : ρ b = some (β, s, N)) (hc : w.heap[β]? = some (.cells c e fz)) (hs : c'.size = c.size) (ho : o ≤ r.length) (hN : s + r.length + new.length ≤ N)
    (hr : ∀ (i : Nat) (x : Value), new[i]? = some x → ∃ y, c'[s + r.length + i]? = some y ∧ V1 ρ x y) (hk : ∀ (i : Nat), i < s + r.length → c'[i]? = c[i]?) {w' : World}
    (hw : w'.heap = w.heap.setIfInBounds β (.cells c' e fz)) (hos : w'.os = w.os) (ht : w'.tape = w.tape) (hou : w'.output = w.output) :
    Step ρ σ w (ρ.snoc σ.length (β, s + o, N)) (σ.set b (.arr r lo false) ++ [.arr (r.drop o ++ new) (r.length - o) true]) w' := by
  have hget : ∀ (β' : Nat), w'.heap[β']? = if β' = β then some (.cells c' e fz) else w.heap[β']? := by
    intro β'
    rw [hw, Array.getElem?_setIfInBounds]
    have := lt_of_get hc
    by_cases h : β = β'
    · subst h; simp [this]
    · rw [if_neg h, if_neg (by omega)]
  obtain ⟨c0, e0, fz0, k1, k2, k3, k4, k5, k6⟩ := hI.arr _ _ _ _ _ _ _ hb hρ
  rw [hc] at k1; cases k1
  have hle : ρ.le (ρ.snoc σ.length (β, s + o, N)) := Ren.snoc_le (hI.new _ (Nat.le_refl _))
  have hren : ∀ b1 β1 s1 N1, (ρ.snoc σ.length (β, s + o, N)) b1 = some (β1, s1, N1) → (b1 = σ.length ∧ β1 = β ∧ s1 = s + o ∧ N1 = N) ∨ (b1 ≠ σ.length ∧ ρ b1 = some (β1, s1, N1)) := by
    intro b1 β1 s1 N1 h
    unfold Ren.snoc at h
    split at h
    · cases h; exact .inl ⟨‹_›, rfl, rfl, rfl⟩
    · exact .inr ⟨‹_›, h⟩
  have hcase : ∀ b1 x, (σ.set b (.arr r lo false) ++ [.arr (r.drop o ++ new) (r.length - o) true])[b1]? = some x →
      (b1 = σ.length ∧ x = .arr (r.drop o ++ new) (r.length - o) true) ∨ (b1 = b ∧ b1 < σ.length ∧ x = .arr r lo false) ∨ (b1 ≠ b ∧ b1 < σ.length ∧ σ[b1]? = some x) := by
    intro b1 x h
    rcases snoc_get h with ⟨h1, h2⟩ | ⟨h1, h2⟩
    · simp at h1
      rcases set_get h2 with ⟨h3, h4⟩ | ⟨h3, h4⟩
      · exact .inr (.inl ⟨h3, h1, h4⟩)
      · exact .inr (.inr ⟨h3, h1, h4⟩)
    · simp at h1; exact .inl ⟨h1, h2⟩
  -- no open object but b lies in the block
  have halone : ∀ b1 r1 lo1 s1 N1, b1 ≠ b → σ[b1]? = some (.arr r1 lo1 true) → ρ b1 = some (β, s1, N1) → False := by
    intro b1 r1 lo1 s1 N1 hne h1 h2
    have := (hI.own _ _ _ _ _ _ _ _ _ _ _ _ hne h1 hb h2 hρ).1
    simp at this
  refine ⟨hle, by simp, fun b hb => by unfold Ren.snoc; rw [if_neg (by omega)], ⟨hos, ht, hou, by rw [hw]; simp, ?_, ?_⟩, ?_, ?_⟩
  · intro β' c1 e1 fz1 h
    rw [hget]
    by_cases hβ : β' = β
    · subst hβ
      rw [hc] at h; cases h
      refine ⟨c', by simp, hs, fun i hi => hk i ?_⟩
      rcases Nat.lt_or_ge i (s + r.length) with h | h
      · exact h
      · exact absurd ⟨b, r, lo, s, N, hb, hρ, by omega⟩ hi
    · rw [if_neg hβ]; exact ⟨c1, h, rfl, fun _ _ => rfl⟩
  · intro β' o' h hn
    rw [hget]
    by_cases hβ : β' = β
    · subst hβ; rw [hc] at h; cases h; exact absurd rfl (hn _ _ _)
    · rw [if_neg hβ]; exact h
  · rintro β' i _ ⟨b', r1, lo1, s1, N1, h1, h2, h3⟩
    rcases hcase _ _ h1 with ⟨h4, h5⟩ | ⟨_, _, h5⟩ | ⟨h4, h6, h5⟩
    · cases h5
      rcases hren _ _ _ _ h2 with ⟨_, h6, h7, _⟩ | ⟨h6, _⟩
      · subst h6; exact ⟨b, r, lo, s, N, hb, hρ, by omega⟩
      · exact absurd h4 h6
    · cases h5
    · rcases hren _ _ _ _ h2 with ⟨h7, _⟩ | ⟨_, h7⟩
      · omega
      · exact ⟨b', r1, lo1, s1, N1, h5, h7, h3⟩
  · refine ⟨?_, ?_, ?_, ?_⟩
    · intro b' h
      simp at h
      unfold Ren.snoc
      rw [if_neg (by omega)]
      exact hI.new b' (by omega)
    · intro b' β' s' N' h
      rw [hw]
      rcases hren _ _ _ _ h with ⟨_, h1, _⟩ | ⟨_, h1⟩
      · subst h1; simpa using lt_of_get hc
      · simpa using hI.blk _ _ _ _ h1
    · intro b' r1 lo1 op1 β1 s1 N1 h1 h2
      rcases hcase _ _ h1 with ⟨h4, h5⟩ | ⟨h4, h6, h5⟩ | ⟨h4, h6, h5⟩
      · cases h5
        rcases hren _ _ _ _ h2 with ⟨_, rfl, rfl, rfl⟩ | ⟨h6, _⟩
        · refine ⟨c', e, fz, by rw [hget]; simp, by omega, by simp; omega, by simp, fun i x hx => ?_, fun _ i hi hi2 => k6 rfl i (by omega) hi2⟩
          rw [List.getElem?_append] at hx
          split at hx
          · rename_i hi
            rw [List.getElem?_drop] at hx
            obtain ⟨y, hy, hv⟩ := k5 _ x hx
            refine ⟨y, ?_, hv.mono hle⟩
            rw [hk _ (by simp at hi; omega), Nat.add_assoc]; exact hy
          · rename_i hi
            simp at hi hx
            obtain ⟨y, hy, hv⟩ := hr _ x hx
            refine ⟨y, ?_, hv.mono hle⟩
            rw [show s + o + i = s + r.length + (i - (r.length - o)) by omega]; exact hy
        · exact absurd h4 h6
      · cases h5
        rcases hren _ _ _ _ h2 with ⟨h7, _⟩ | ⟨_, h7⟩
        · omega
        · subst h4
          rw [hρ] at h7; cases h7
          refine ⟨c', e, fz, by rw [hget]; simp, by omega, by omega, k4, fun i x hx => ?_, fun h => by cases h⟩
          obtain ⟨y, hy, hv⟩ := k5 _ x hx
          exact ⟨y, by rw [hk _ (by have := get_lt hx; omega)]; exact hy, hv.mono hle⟩
      · rcases hren _ _ _ _ h2 with ⟨h7, _⟩ | ⟨_, h7⟩
        · omega
        · obtain ⟨c1, e1, fz1, m1, m2, m3, m4, m5, m6⟩ := hI.arr _ _ _ _ _ _ _ h5 h7
          by_cases hβ : β1 = β
          · subst hβ
            rw [hc] at m1; cases m1
            have hown := (hI.own b b' r lo r1 lo1 op1 β1 s N s1 N1 (by omega) hb h5 hρ h7).2
            refine ⟨c', e, fz, by rw [hget]; simp, by omega, by omega, m4, fun i x hx => ?_, m6⟩
            obtain ⟨y, hy, hv⟩ := m5 i x hx
            exact ⟨y, by rw [hk _ (by have := get_lt hx; omega)]; exact hy, hv.mono hle⟩
          · exact ⟨c1, e1, fz1, by rw [hget, if_neg hβ]; exact m1, m2, m3, m4, fun i x hx => let ⟨y, hy, hv⟩ := m5 i x hx; ⟨y, hy, hv.mono hle⟩, m6⟩
    · intro b1 b2 r1 lo1 r2 lo2 op2 β1 s1 N1 s2 N2 hne h1 h2 h3 h4
      rcases hcase _ _ h1 with ⟨g1, g2⟩ | ⟨_, _, g2⟩ | ⟨g1, g3, g2⟩
      · cases g2
        rcases hren _ _ _ _ h3 with ⟨_, rfl, rfl, rfl⟩ | ⟨h6, _⟩
        · rcases hren _ _ _ _ h4 with ⟨h7, _⟩ | ⟨_, h7⟩
          · omega
          · rcases hcase _ _ h2 with ⟨q1, _⟩ | ⟨q1, _, q2⟩ | ⟨q1, q3, q2⟩
            · omega
            · cases q2
              subst q1
              rw [hρ] at h7; cases h7
              exact ⟨rfl, by omega⟩
            · cases op2 with
              | false => exact ⟨rfl, by have := (hI.own b b2 r lo r2 lo2 false β1 s N1 s2 N2 (by omega) hb q2 hρ h7).2; omega⟩
              | true => exact (halone _ _ _ _ _ q1 q2 h7).elim
        · exact absurd g1 h6
      · cases g2
      · rcases hren _ _ _ _ h3 with ⟨h7, _⟩ | ⟨_, h7⟩
        · omega
        · rcases hren _ _ _ _ h4 with ⟨h8, rfl, _, _⟩ | ⟨_, h8⟩
          · exact (halone _ _ _ _ _ g1 g2 h7).elim
          · rcases hcase _ _ h2 with ⟨q1, _⟩ | ⟨q1, _, q2⟩ | ⟨q1, q3, q2⟩
            · have := hI.new b2 (by omega); rw [this] at h8; cases h8
            · cases q2
              subst q1
              exact ⟨rfl, (hI.own _ _ _ _ _ _ _ _ _ _ _ _ hne g2 hb h7 h8).2⟩
            · exact hI.own _ _ _ _ _ _ _ _ _ _ _ _ hne g2 q2 h7 h8

end Go.Ab
