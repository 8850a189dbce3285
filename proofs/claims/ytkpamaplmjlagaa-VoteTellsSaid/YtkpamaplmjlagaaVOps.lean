/-
  The operations of the machine of values, in the abstract machine: stores, loads, places.
-/
import Derived.Test.YtkpamaplmjlagaaVRel
namespace Go.Vm
open Go Go.Ab
set_option linter.unusedVariables false

theorem row_of {s : S} {b : Nat} {c : List Value} {lo : Nat} {op : Bool} (h : s.σ[b]? = some (.arr c lo op)) : row s b = some c := by unfold row; rw [h]
theorem getlt {α : Type} {l : List α} {i : Nat} {x : α} (h : l[i]? = some x) : i < l.length := (List.getElem?_eq_some_iff.1 h).1
theorem snoc_old {α : Type} {l : List α} {x y : α} {i : Nat} (h : l[i]? = some y) : (l ++ [x])[i]? = some y := by rw [List.getElem?_append_left (getlt h)]; exact h
theorem snoc_inv {α : Type} {l : List α} {x y : α} {i : Nat} (h : (l ++ [x])[i]? = some y) : l[i]? = some y ∨ (i = l.length ∧ y = x) := by
  rcases Nat.lt_trichotomy i l.length with h1 | h1 | h1
  · rw [List.getElem?_append_left h1] at h; exact .inl h
  · subst h1; simp at h; exact .inr ⟨rfl, h.symm⟩
  · rw [List.getElem?_eq_none (by simp; omega)] at h; cases h
theorem snoc_self {α : Type} (l : List α) (x : α) : (l ++ [x])[l.length]? = some x := by simp
theorem set_inv {α : Type} {l : List α} {b i : Nat} {x y : α} (h : (l.set b x)[i]? = some y) : (i = b ∧ y = x) ∨ (i ≠ b ∧ l[i]? = some y) := by
  rw [List.getElem?_set] at h
  by_cases hi : b = i
  · rw [if_pos hi] at h
    split at h
    · cases h; exact .inl ⟨hi.symm, rfl⟩
    · cases h
  · rw [if_neg hi] at h; exact .inr ⟨fun h => hi h.symm, h⟩
theorem set_ne {α : Type} {l : List α} {b i : Nat} {x : α} (h : i ≠ b) : (l.set b x)[i]? = l[i]? := by rw [List.getElem?_set]; rw [if_neg (fun h' => h h'.symm)]
theorem set_self {α : Type} {l : List α} {b : Nat} {x y : α} (h : l[b]? = some y) : (l.set b x)[b]? = some x := by rw [List.getElem?_set]; simp [getlt h]

theorem setV_length : ∀ (vs c : List VV) (o : Nat), (setV c o vs).length = c.length
  | [], _, _ => rfl
  | v :: vs, c, o => by simp [setV, setV_length vs]
theorem setV_get : ∀ (vs c : List VV) (o i : Nat), (setV c o vs)[i]? = if o ≤ i ∧ i < o + vs.length ∧ i < c.length then vs[i - o]? else c[i]?
  | [], c, o, i => by
    simp only [setV, List.length_nil, Nat.add_zero]
    split
    · omega
    · rfl
  | v :: vs, c, o, i => by
    simp only [setV, setV_get vs, List.length_set, List.length_cons, List.getElem?_set]
    by_cases h1 : o + 1 ≤ i ∧ i < o + 1 + vs.length ∧ i < c.length
    · rw [if_pos h1, if_pos (by omega), show i - o = (i - (o + 1)) + 1 by omega]; simp
    · rw [if_neg h1]
      by_cases h2 : o = i
      · subst h2
        by_cases h3 : o < c.length
        · rw [if_pos rfl, if_pos h3, if_pos ⟨Nat.le_refl _, by omega, h3⟩]; simp
        · rw [if_pos rfl, if_neg h3, if_neg (by omega)]; exact (List.getElem?_eq_none (by omega)).symm
      · rw [if_neg h2]
        rw [if_neg (by omega)]

section
variable {P : Program} {s : St} {σ : List VObj} {α : List AObj}

theorem rowV_some {vs : VS} {b : Nat} {c : List VV} (h : rowV vs b = some c) : ∃ lo op, vs.σ[b]? = some (.arr c lo op) := by
  unfold rowV at h
  split at h
  · rename_i lo op h1; cases h; exact ⟨_, _, h1⟩
  · cases h
/-- The row of an object. -/
theorem row_sim {vs : VS} {as : S} (hR : Rel s vs.σ as.σ) {b a : Nat} {c : List VV} (h : rowV vs b = some c) (ha : s.ι b = some a) :
    ∃ c', row as a = some c' ∧ c.length = c'.length ∧ ∀ (j : Nat) (x : VV) (w : Value), c[j]? = some x → c'[j]? = some w → VT s (.cell b j) x w := by
  obtain ⟨lo, op, h1⟩ := rowV_some h
  obtain ⟨a', c', lo', op', g1, g2, _, _, g3, g4⟩ := hR.obj _ _ _ _ h1
  rw [ha] at g1; cases g1
  exact ⟨c', row_of g2, g3, g4⟩
theorem zrow_row {as : S} (hR : Rel s σ as.σ) {a : Nat} {r : List Value} (h : s.z a = some r) : row as a = some r := by
  obtain ⟨lo, op, h1, _⟩ := hR.zrow _ _ h
  exact row_of h1
theorem cells_cls {b : Nat} {c : List VV} {c' : List Value} (hl : c.length = c'.length) (h : ∀ (j : Nat) (x : VV) (w : Value), c[j]? = some x → c'[j]? = some w → VT s (.cell b j) x w) : All2 s.R (c.map cls) c' :=
  ⟨by simp [hl], fun j x w hx hw => by
    rw [List.getElem?_map, Option.map_eq_some_iff] at hx
    obtain ⟨y, hy, rfl⟩ := hx
    exact (h j y w hy hw).cls⟩

theorem load_simV {vs : VS} {as : S} (hR : Rel s vs.σ as.σ) {t : TypeId} {p v : VV} {pw : Value} (h : loadVV P t vs p = some v) (hp : s.R p pw) : ∃ w, pLoad P t as pw = some w ∧ s.R v w := by
  unfold loadVV at h
  simp only [Option.bind_eq_some_iff] at h
  obtain ⟨ag, h1, h⟩ := h
  unfold pLoad
  rw [h1, Option.bind_some]
  cases ag with
  | true =>
    simp only [if_true, Option.bind_eq_some_iff] at h ⊢
    obtain ⟨n, h2, h⟩ := h
    suffices ∃ w, ldn n as pw = some w ∧ s.R v w by obtain ⟨w, k1, k2⟩ := this; exact ⟨w, ⟨n, h2, k1⟩, k2⟩
    unfold ldnV at h
    split at h
    · rename_i b o
      obtain ⟨a, ha, rfl⟩ := hp.ptr_inv
      simp only [Option.bind_eq_some_iff] at h
      obtain ⟨c, hc, h⟩ := h
      split at h
      · cases h
        obtain ⟨c', g1, g2, g3⟩ := row_sim hR hc ha
        refine ⟨.agg ((c'.drop o).take n).toArray, ?_, VR.agg_iff.2 ⟨_, rfl, ?_⟩⟩
        · simp only [ldn, g1, Option.bind_some]; rw [if_pos (by omega)]
        · rw [List.map_take, List.map_drop]
          exact ((cells_cls (b := b) g2 g3).drop o).take n
      · cases h
    · rename_i cs
      obtain ⟨a, o, r, g1, rfl, g2, g3⟩ := hp.pt_inv
      split at h
      · cases h
        simp only [cellsV] at g2 g3
        refine ⟨.agg ((r.drop o).take n).toArray, ?_, VR.agg_iff.2 ⟨_, rfl, by simp; omega, fun j x w hx hw => ?_⟩⟩
        · simp only [ldn, zrow_row hR g1, Option.bind_some]; rw [if_pos (by omega)]
        · have hj := getlt hx
          rw [List.getElem?_take_of_lt (by omega), List.getElem?_drop] at hw
          exact g3 j x w hx hw
      · cases h
    · cases h
  | false =>
    simp only [Bool.false_eq_true, if_false] at h ⊢
    unfold ld1V at h
    split at h
    · rename_i b o
      obtain ⟨a, ha, rfl⟩ := hp.ptr_inv
      simp only [Option.bind_eq_some_iff, Option.map_eq_some_iff] at h
      obtain ⟨c, hc, x, hx, rfl⟩ := h
      obtain ⟨c', g1, g2, g3⟩ := row_sim hR hc ha
      have hj := getlt hx
      refine ⟨c'[o], ?_, (g3 o x _ hx (List.getElem?_eq_getElem (by omega))).cls⟩
      simp only [ld1, g1, Option.bind_some, List.getElem?_eq_getElem (show o < c'.length by omega)]
    · rename_i u
      obtain ⟨a, o, r, g1, rfl, g2, g3⟩ := hp.pt_inv
      split at h
      · rename_i hc
        cases h
        rw [VR.of_cell hc] at g2 g3
        simp at g2
        refine ⟨r[o], ?_, g3 0 v _ rfl (List.getElem?_eq_getElem (show o + 0 < r.length by omega))⟩
        simp only [ld1, zrow_row hR g1, Option.bind_some, List.getElem?_eq_getElem (show o < r.length by omega)]
      · cases h
    · cases h

/-- A right is taken out of a cell. -/
theorem ldt_simV {vs vs1 : VS} {as : S} (hR : Rel s vs.σ as.σ) {p v : VV} {pw : Value} (h : ldtV vs p = some (v, vs1)) (hp : s.R p pw) :
    ∃ w s1, ld1 as pw = some w ∧ Rel s1 vs1.σ as.σ ∧ s1.ι = s.ι ∧ s1.z = s.z ∧ s1.lit = s.lit ∧ (∀ a L, s.ow a = some L → (∀ b i, L ≠ .cell b i) → s1.ow a = some L) ∧ VT s1 .res v w ∧ vs1.ev = vs.ev ∧ vs1.wr = vs.wr ∧
      ∃ b o c lo x, p = .ptr b o ∧ vs.σ[b]? = some (.arr c lo true) ∧ c[o]? = some x ∧ vs1.σ = vs.σ.set b (.arr (c.set o (cls x)) lo true) := by
  unfold ldtV at h
  split at h
  · rename_i b o
    obtain ⟨a, ha, rfl⟩ := hp.ptr_inv
    split at h
    · rename_i c lo hb
      simp only [Option.map_eq_some_iff] at h
      obtain ⟨x, hx, h⟩ := h
      simp only [Prod.mk.injEq] at h
      obtain ⟨rfl, rfl⟩ := h
      obtain ⟨a', c', lo', op', g1, g2, g3, g3', g4, g5⟩ := hR.obj _ _ _ _ hb
      rw [ha] at g1; cases g1
      have hj := getlt hx
      obtain ⟨w0, hwj⟩ : ∃ w0, c'[o]? = some w0 := ⟨_, List.getElem?_eq_getElem (by omega)⟩
      have hvt := g5 o x _ hx hwj
      let s1 : St := { s with ow := fun a' => if s.ow a' = some (.cell b o) then some .res else s.ow a' }
      have how : ∀ a' L, s1.ow a' = some L → (L = .res ∧ s.ow a' = some (.cell b o)) ∨ s.ow a' = some L := by
        intro a' L hL
        simp only [s1] at hL
        split at hL
        · cases hL; exact .inl ⟨rfl, by assumption⟩
        · exact .inr hL
      have hvo : ∀ {L : Loc} {u : VV} {w : Value}, L ≠ .cell b o → VT s L u w → VT s1 L u w := by
        intro L u w hL hu
        cases hu with
        | c h => exact .c h
        | o hz he how h =>
          refine .o hz he ?_ h
          simp only [s1]
          rw [if_neg (by rw [how]; exact fun h => hL (Option.some.inj h))]; exact how
      refine ⟨w0, s1, ?_, ?_, rfl, rfl, rfl, ?_, ?_, rfl, rfl, b, o, c, lo, x, rfl, hb, hx, rfl⟩
      · simp only [ld1, row_of g2, Option.bind_some]; exact hwj
      · refine ⟨fun b' hb' => hR.dom b' (by simpa using hb'), hR.inj, ?_, hR.zrow, ?_, ?_, hR.litz⟩
        · intro b' c1 lo1 op1 hb'
          rcases set_inv hb' with ⟨rfl, h1⟩ | ⟨h0, h1⟩
          · cases h1
            refine ⟨a, c', lo', op', ha, g2, g3, by simpa using g3', by simpa using g4, fun j y w hy hw => ?_⟩
            rw [List.getElem?_set] at hy
            by_cases hjo : o = j
            · subst hjo
              rw [if_pos rfl, if_pos (by omega)] at hy; cases hy
              exact .c (g5 o x w hx hw).cls
            · rw [if_neg hjo] at hy
              exact hvo (fun h => hjo (by cases h; rfl)) (g5 j y w hy hw)
          · obtain ⟨a2, c2, lo2, op2, k1, k2, k3, k4, k5, k6⟩ := hR.obj _ _ _ _ h1
            exact ⟨a2, c2, lo2, op2, k1, k2, k3, k4, k5, fun j y w hy hw => hvo (fun h => h0 (by cases h; rfl)) (k6 j y w hy hw)⟩
        · intro a2 r b2 hz hb2
          obtain ⟨c2, lo2, k⟩ := hR.zi _ _ _ hz hb2
          have : b2 ≠ b := fun h => by subst h; rw [hb] at k; cases k
          exact ⟨c2, lo2, by rw [set_ne this]; exact k⟩
        · intro a' L hL
          rcases how a' L hL with ⟨_, h⟩ | h
          · exact hR.own a' _ h
          · exact hR.own a' _ h
      · intro a' L hL hn
        simp only [s1]
        rw [if_neg (by rw [hL]; exact fun h => hn b o (Option.some.inj h))]; exact hL
      · cases hvt with
        | c h => exact .c h
        | o hz he how h => exact .o hz he (by simp only [s1]; rw [if_pos how]) h
    · cases h
  · cases h

/-- A store: of closed cells, or of one that may be appended to. -/
theorem stn_simV {vs vs1 : VS} {as : S} (hR : Rel s vs.σ as.σ) {h h' : Nat} {xs : List VV} {ws : List Value} {p : VV} {pw : Value} (hs : stnV h vs xs p = some vs1) (hp : s.R p pw)
    (hv : All2 s.R xs ws ∨ ∃ x w, xs = [x] ∧ ws = [w] ∧ VT s .res x w) :
    ∃ as1 s1, stn h' as ws pw = some as1 ∧ Rel s1 vs1.σ as1.σ ∧ Ex Loc.fix s vs.σ as.σ s1 vs1.σ as1.σ (wsOf p) ∧ s1.ι = s.ι ∧ s1.z = s.z ∧ s1.lit = s.lit ∧ (∀ a L, s1.ow a = some L → s.ow a = some L ∨ ∃ b i, L = .cell b i) ∧
      ∃ b o c lo, p = .ptr b o ∧ vs.σ[b]? = some (.arr c lo true) ∧ vs1 = ⟨vs.σ.set b (.arr (setV c o xs) lo true), evU h b xs vs.ev, wrU h b vs.wr⟩ ∧ (All2 s.R xs ws ∨ True) := by
  unfold stnV at hs
  split at hs
  · rename_i b o
    obtain ⟨a, ha, rfl⟩ := hp.ptr_inv
    split at hs
    · rename_i c lo hb
      split at hs
      · rename_i hc
        cases hs
        obtain ⟨a', c', lo', op', g1, g2, g3, g3', g4, g5⟩ := hR.obj _ _ _ _ hb
        rw [ha] at g1; cases g1
        obtain ⟨rfl, gl⟩ := g3 rfl
        have hlen : xs.length = ws.length := by rcases hv with hv | ⟨x, w, rfl, rfl, _⟩ <;> first | exact hv.1 | rfl
        have hcell : ws.all isCell = true := by
          rcases hv with hv | ⟨x, w, rfl, rfl, hvt⟩
          · rw [hv.isC]; exact hc.2.2
          · cases hvt with
            | c h => have := h.isC; have h2 := hc.2.2; simp at h2 ⊢; rw [this]; exact h2
            | o => rfl
        classical
        let s1 : St := if hv' : All2 s.R xs ws then s else { s with ow := fun a' => if s.ow a' = some .res then some (.cell b o) else s.ow a' }
        have e1 : s1.ι = s.ι := by simp only [s1]; split <;> rfl
        have e2 : s1.z = s.z := by simp only [s1]; split <;> rfl
        have e3 : s1.lit = s.lit := by simp only [s1]; split <;> rfl
        have how : ∀ a' L, s1.ow a' = some L → s.ow a' = some L ∨ (L = .cell b o ∧ s.ow a' = some .res) := by
          intro a' L hL
          simp only [s1] at hL
          split at hL
          · exact .inl hL
          · simp only at hL
            split at hL
            · cases hL; exact .inr ⟨rfl, by assumption⟩
            · exact .inl hL
        have how' : ∀ a' L, s.ow a' = some L → L ≠ .res → s1.ow a' = some L := by
          intro a' L hL hne
          simp only [s1]
          split
          · exact hL
          · simp only; rw [if_neg (by rw [hL]; exact fun h => hne (Option.some.inj h))]; exact hL
        have hR1 : ∀ {u : VV} {w : Value}, s.R u w → s1.R u w := by intro u w hu; unfold St.R; rw [e1, e2, e3]; exact hu
        have hvo : ∀ {L : Loc} {u : VV} {w : Value}, L ≠ .res → VT s L u w → VT s1 L u w := by
          intro L u w hL hu
          cases hu with
          | c h => exact .c (hR1 h)
          | o hz he how h => exact .o (by rw [e2]; exact hz) he (how' _ _ how hL) (hR1 h)
        have hnew : ∀ (j : Nat) (x : VV) (w : Value), xs[j]? = some x → ws[j]? = some w → VT s1 (.cell b (o + j)) x w := by
          intro j x w hx hw
          by_cases hv' : All2 s.R xs ws
          · exact .c (hR1 (hv'.2 j x w hx hw))
          · rcases hv with hv | ⟨x', w', rfl, rfl, hvt⟩
            · exact absurd hv hv'
            · cases j with
              | succ j => simp at hx
              | zero =>
                simp at hx hw; subst hx; subst hw
                cases hvt with
                | c h => exact .c (hR1 h)
                | o hz he hoo h => exact .o (by rw [e2]; exact hz) he (by simp only [s1]; rw [dif_neg hv']; simp only; rw [if_pos hoo]; rfl) (hR1 h)
        have hza : ∀ a2 r, s.z a2 = some r → a2 ≠ a := fun a2 r hz he => by
          subst he
          obtain ⟨c2, lo2, k⟩ := hR.zi _ _ _ hz ha
          rw [hb] at k; cases k
        refine ⟨⟨as.σ.set a (.arr (setCells c' o ws) lo' true), evUpd h' a ws as.ev⟩, s1, ?_, ?_, ?_, e1, e2, e3, ?_, b, o, c, lo, rfl, hb, rfl, .inr trivial⟩
        · simp only [stn, g2]; rw [if_pos ⟨by omega, by omega, hcell⟩]
        · refine ⟨fun b' hb' => by rw [e1]; exact hR.dom b' (by simpa using hb'), by rw [e1]; exact hR.inj, ?_, ?_, ?_, ?_, by rw [e2, e3]; exact hR.litz⟩
          · intro b' c1 lo1 op1 hb'
            rw [e1]
            rcases set_inv hb' with ⟨rfl, h1⟩ | ⟨h0, h1⟩
            · cases h1
              refine ⟨a, _, lo', true, ha, set_self g2, fun _ => ⟨rfl, gl⟩, by rw [setV_length]; exact g3', by rw [setV_length, setCells_length]; exact g4, fun j y w hy hw => ?_⟩
              rw [setV_get] at hy
              rw [setCells_get] at hw
              by_cases hj : o ≤ j ∧ j < o + xs.length ∧ j < c.length
              · rw [if_pos hj] at hy; rw [if_pos (by omega)] at hw
                have := hnew (j - o) y w hy hw
                rwa [show o + (j - o) = j by omega] at this
              · rw [if_neg hj] at hy; rw [if_neg (by omega)] at hw
                exact hvo (by simp) (g5 j y w hy hw)
            · obtain ⟨a2, c2, lo2, op2, k1, k2, k3, k4, k5, k6⟩ := hR.obj _ _ _ _ h1
              have hne : a2 ≠ a := fun he => h0 (hR.inj _ _ _ k1 (he ▸ ha))
              exact ⟨a2, c2, lo2, op2, k1, by simp only; rw [set_ne hne]; exact k2, k3, k4, k5, fun j y w hy hw => hvo (by simp) (k6 j y w hy hw)⟩
          · intro a2 r hz
            rw [e2] at hz
            obtain ⟨lo2, op2, k1, k2⟩ := hR.zrow _ _ hz
            exact ⟨lo2, op2, by simp only; rw [set_ne (hza _ _ hz)]; exact k1, k2⟩
          · intro a2 r b2 hz hb2
            rw [e2] at hz; rw [e1] at hb2
            obtain ⟨c2, lo2, k⟩ := hR.zi _ _ _ hz hb2
            have : b2 ≠ b := fun h => by subst h; rw [hb] at k; cases k
            exact ⟨c2, lo2, by simp only; rw [set_ne this]; exact k⟩
          · intro a' L hL
            rw [e1, e2, e3]
            have hL' : ∃ L', s.ow a' = some L' := by rcases how a' L hL with h | ⟨_, h⟩ <;> exact ⟨_, h⟩
            obtain ⟨L', hL'⟩ := hL'
            obtain ⟨⟨r, lo2, k1, k2, k3⟩, k4, k5⟩ := hR.own a' _ hL'
            exact ⟨⟨r, lo2, k1, by simp only; rw [set_ne (hza _ _ k1)]; exact k2, k3⟩, k4, k5⟩
        · refine ⟨by rw [e2]; exact fun _ _ h => h, by rw [e3]; exact fun _ h => h, fun _ _ => by rw [e1], by simp, by simp, fun a' L hL hf => how' _ _ hL (by rintro rfl; exact hf), fun b' a2 hb' ha2 => ?_, fun a2 r hz _ => by simp only; rw [set_ne (hza _ _ hz)]⟩
          simp only [wsOf, List.mem_singleton] at hb'
          simp only
          rw [set_ne (show a2 ≠ a from fun he => hb' (hR.inj _ _ _ ha2 (by rw [he]; exact ha)))]
        · intro a' L hL
          rcases how a' L hL with h | ⟨h, _⟩
          · exact .inl h
          · exact .inr ⟨b, o, h⟩
      · cases hs
    · cases hs
  · cases hs

/-! ### New objects -/
theorem Rel.alt {s : St} {σ : List VObj} {α : List AObj} (hR : Rel s σ α) {b a : Nat} (h : s.ι b = some a) : a < α.length := by
  have hb := hR.lt h
  obtain ⟨c, lo, op, hc⟩ : ∃ c lo op, σ[b]? = some (.arr c lo op) := by
    cases h1 : σ[b] with
    | arr c lo op => exact ⟨c, lo, op, by rw [List.getElem?_eq_getElem hb, h1]⟩
  obtain ⟨a', c', lo', op', g1, g2, _⟩ := hR.obj _ _ _ _ hc
  rw [h] at g1; cases g1
  exact getlt g2
theorem Rel.zlt {s : St} {σ : List VObj} {α : List AObj} (hR : Rel s σ α) {a : Nat} {r : List Value} (h : s.z a = some r) : a < α.length := by
  obtain ⟨lo, op, h1, _⟩ := hR.zrow _ _ h; exact getlt h1

/-- An object on both sides. -/
theorem rel_new (hR : Rel s σ α) {c : List VV} {c' : List Value} (lo lo' : Nat) (hlo : lo' ≤ lo) (hlo2 : lo ≤ c.length) (hc : All2 s.R c c') :
    ∃ s1, Rel s1 (σ ++ [.arr c lo true]) (α ++ [.arr c' lo' true]) ∧ Ex Loc.fix s σ α s1 (σ ++ [.arr c lo true]) (α ++ [.arr c' lo' true]) [] ∧ s1.ι σ.length = some α.length ∧ s1.ow = s.ow ∧ s1.z = s.z ∧ s1.lit = s.lit := by
  let s1 : St := { s with ι := fun b => if b = σ.length then some α.length else s.ι b }
  have e : ∀ b, b ≠ σ.length → s1.ι b = s.ι b := fun b hb => by simp only [s1]; rw [if_neg hb]
  have hm : ∀ b a, s.ι b = some a → s1.ι b = some a := fun b a hb => by rw [e b (by have := hR.lt hb; omega)]; exact hb
  have hinv : ∀ b a, s1.ι b = some a → (b = σ.length ∧ a = α.length) ∨ s.ι b = some a := by
    intro b a hb
    simp only [s1] at hb
    split at hb
    · cases hb; exact .inl ⟨by assumption, rfl⟩
    · exact .inr hb
  have hR1 : ∀ {u : VV} {w : Value}, s.R u w → s1.R u w := fun hu => VR.mono hm (fun _ _ h => h) (fun _ h => h) hu
  have hvo : ∀ {L : Loc} {u : VV} {w : Value}, VT s L u w → VT s1 L u w := by
    intro L u w hu
    cases hu with
    | c h => exact .c (hR1 h)
    | o hz he how h => exact .o hz he how (hR1 h)
  refine ⟨s1, ⟨?_, ?_, ?_, ?_, ?_, ?_, hR.litz⟩, ?_, by simp [s1], rfl, rfl, rfl⟩
  · intro b hb
    simp at hb
    rw [e b (by omega)]; exact hR.dom b (by omega)
  · intro b b' a h1 h2
    rcases hinv _ _ h1 with ⟨h3, h4⟩ | h3 <;> rcases hinv _ _ h2 with ⟨h5, h6⟩ | h5
    · omega
    · have := hR.alt h5; omega
    · have := hR.alt h3; omega
    · exact hR.inj _ _ _ h3 h5
  · intro b c1 lo1 op1 hb
    rcases snoc_inv hb with h1 | ⟨rfl, h1⟩
    · obtain ⟨a2, c2, lo2, op2, k1, k2, k3, k4, k5, k6⟩ := hR.obj _ _ _ _ h1
      exact ⟨a2, c2, lo2, op2, hm _ _ k1, snoc_old k2, k3, k4, k5, fun j y w hy hw => hvo (k6 j y w hy hw)⟩
    · cases h1
      exact ⟨α.length, c', lo', true, by simp [s1], snoc_self _ _, fun _ => ⟨rfl, hlo⟩, hlo2, hc.1, fun j y w hy hw => .c (hR1 (hc.2 j y w hy hw))⟩
  · intro a r hz
    obtain ⟨lo2, op2, k1, k2⟩ := hR.zrow _ _ hz
    exact ⟨lo2, op2, snoc_old k1, k2⟩
  · intro a r b hz hb
    rcases hinv _ _ hb with ⟨_, h4⟩ | h3
    · have := hR.zlt (s := s) hz; omega
    · obtain ⟨c2, lo2, k⟩ := hR.zi _ _ _ hz h3
      exact ⟨c2, lo2, snoc_old k⟩
  · intro a L hL
    obtain ⟨⟨r, lo2, k1, k2, k3⟩, k4, k5⟩ := hR.own a L hL
    refine ⟨⟨r, lo2, k1, snoc_old k2, k3⟩, k4, fun b hb => ?_⟩
    rcases hinv _ _ hb with ⟨_, h4⟩ | h3
    · have := hR.zlt k1; omega
    · exact k5 b h3
  · exact ⟨fun _ _ h => h, fun _ h => h, fun b hb => e b (by omega), by simp, by simp, fun _ _ h _ => h, fun b a _ ha => by rw [List.getElem?_append_left (hR.alt ha)], fun a r hz _ => by rw [List.getElem?_append_left (hR.zlt hz)]⟩

/-- A row of the abstract machine alone: 'lt': nobody appends to it; else the one at 'res' may. -/
theorem rel_newz (hR : Rel s σ α) {c' : List Value} (lo' : Nat) (hlo : lo' ≤ c'.length) (hr : c'.all refl1 = true) (lt : Bool) :
    ∃ s1, Rel s1 σ (α ++ [.arr c' lo' true]) ∧ Ex Loc.fix s σ α s1 σ (α ++ [.arr c' lo' true]) [] ∧ s1.z α.length = some c' ∧ (lt = true → s1.lit α.length) ∧ (lt = false → s1.ow α.length = some .res) ∧ s1.ι = s.ι ∧ (∀ a, a ≠ α.length → s1.ow a = s.ow a) ∧ ∀ a, a ≠ α.length → s1.z a = s.z a := by
  let s1 : St := { s with z := fun a => if a = α.length then some c' else s.z a, lit := fun a => (lt = true ∧ a = α.length) ∨ s.lit a, ow := fun a => if a = α.length then (if lt then none else some .res) else s.ow a }
  have ez : ∀ a, a ≠ α.length → s1.z a = s.z a := fun a ha => by simp only [s1]; rw [if_neg ha]
  have eo : ∀ a, a ≠ α.length → s1.ow a = s.ow a := fun a ha => by simp only [s1]; rw [if_neg ha]
  have hz1 : ∀ a r, s.z a = some r → s1.z a = some r := fun a r hz => by rw [ez a (by have := hR.zlt hz; omega)]; exact hz
  have ho1 : ∀ a L, s.ow a = some L → s1.ow a = some L := fun a L hL => by
    obtain ⟨⟨r, lo2, k1, _⟩, _⟩ := hR.own a L hL
    rw [eo a (by have := hR.zlt k1; omega)]; exact hL
  have hl1 : ∀ a, s.lit a → s1.lit a := fun a ha => .inr ha
  have hR1 : ∀ {u : VV} {w : Value}, s.R u w → s1.R u w := fun hu => VR.mono (fun _ _ h => h) hz1 hl1 hu
  have hvo : ∀ {L : Loc} {u : VV} {w : Value}, VT s L u w → VT s1 L u w := by
    intro L u w hu
    cases hu with
    | c h => exact .c (hR1 h)
    | o hz he how h => exact .o (hz1 _ _ hz) he (ho1 _ _ how) (hR1 h)
  refine ⟨s1, ⟨hR.dom, hR.inj, ?_, ?_, ?_, ?_, ?_⟩, ⟨hz1, hl1, fun _ _ => rfl, Nat.le_refl _, by simp, fun a L hL _ => ho1 a L hL, fun b a _ ha => by rw [List.getElem?_append_left (hR.alt ha)], fun a r hz _ => by rw [List.getElem?_append_left (hR.zlt hz)]⟩,
    by simp [s1], fun h => .inl ⟨h, rfl⟩, fun h => by simp [s1, h], rfl, eo, ez⟩
  · intro b c1 lo1 op1 hb
    obtain ⟨a2, c2, lo2, op2, k1, k2, k3, k4, k5, k6⟩ := hR.obj _ _ _ _ hb
    exact ⟨a2, c2, lo2, op2, k1, snoc_old k2, k3, k4, k5, fun j y w hy hw => hvo (k6 j y w hy hw)⟩
  · intro a r hz
    by_cases ha : a = α.length
    · subst ha
      have : c' = r := by simpa [s1] using hz
      subst this
      exact ⟨lo', true, snoc_self _ _, hr⟩
    · rw [ez a ha] at hz
      obtain ⟨lo2, op2, k1, k2⟩ := hR.zrow _ _ hz
      exact ⟨lo2, op2, snoc_old k1, k2⟩
  · intro a r b hz hb
    have := hR.alt hb
    rw [ez a (by omega)] at hz
    exact hR.zi _ _ _ hz hb
  · intro a L hL
    by_cases ha : a = α.length
    · subst ha
      have hlt : lt = false := by cases lt with
        | true => simp [s1] at hL
        | false => rfl
      refine ⟨⟨c', lo', by simp [s1], snoc_self _ _, hlo⟩, ?_, fun b hb => by have := hR.alt hb; omega⟩
      rintro (⟨h, _⟩ | h)
      · rw [hlt] at h; cases h
      · obtain ⟨r, hr⟩ := hR.litz _ h
        have := hR.zlt hr; omega
    · rw [eo a ha] at hL
      obtain ⟨⟨r, lo2, k1, k2, k3⟩, k4, k5⟩ := hR.own a L hL
      refine ⟨⟨r, lo2, hz1 _ _ k1, snoc_old k2, k3⟩, ?_, k5⟩
      rintro (⟨_, h⟩ | h)
      · exact ha h
      · exact k4 h
  · rintro a (⟨_, rfl⟩ | h)
    · exact ⟨c', by simp [s1]⟩
    · obtain ⟨r, hr⟩ := hR.litz _ h
      exact ⟨r, hz1 _ _ hr⟩
end
end Go.Vm
