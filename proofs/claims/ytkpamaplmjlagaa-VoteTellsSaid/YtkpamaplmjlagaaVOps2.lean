/-
  The operations of the machine of values, in the abstract machine: parts, slices, literals.
-/
import Derived.Test.YtkpamaplmjlagaaVOps
namespace Go.Vm
open Go Go.Ab
set_option linter.unusedVariables false

section
variable {P : Program} {s : St} {σ : List VObj} {α : List AObj}
variable {ι : Nat → Option Nat} {z : Nat → Option (List Value)} {lit : Nat → Prop}

/-! ### Parts -/
theorem fldC_sim {ag : Bool} {n off : Nat} {cs : List VV} {ws : Array Value} {v : VV} (h : fldC ag n off cs = some v) (hc : All2 (VR ι z lit) cs ws.toList) : ∃ w, fldV ag n off (.agg ws) = some w ∧ VR ι z lit v w := by
  unfold fldC at h
  cases ag with
  | true =>
    simp only [if_true] at h
    split at h
    · cases h
      refine ⟨.agg (ws.extract off (off + n)), by simp [fldV], VR.agg_iff.2 ⟨_, rfl, ?_⟩⟩
      rw [Array.toList_extract, List.extract_eq_take_drop]
      simpa using (hc.drop off).take n
    · cases h
  | false =>
    simp only [Bool.false_eq_true, if_false] at h
    obtain ⟨w, h1, h2⟩ := hc.get h
    exact ⟨w, by simpa [fldV] using h1, h2⟩
theorem fldC_cells {ag : Bool} {n off : Nat} {cs : List VV} {v : VV} (h : fldC ag n off cs = some v) (hC : ∀ x ∈ cs, isC x = true) : off + (cellsV v).length ≤ cs.length ∧ ∀ (j : Nat) (x : VV), (cellsV v)[j]? = some x → cs[off + j]? = some x := by
  unfold fldC at h
  cases ag with
  | true =>
    simp only [if_true] at h
    split at h
    · cases h
      refine ⟨by simp [cellsV]; omega, fun j x hx => ?_⟩
      simp only [cellsV] at hx
      rw [List.getElem?_take] at hx
      split at hx
      · rwa [List.getElem?_drop] at hx
      · cases hx
    · cases h
  | false =>
    simp only [Bool.false_eq_true, if_false] at h
    have hv := VR.of_cell (hC v (List.mem_of_getElem? h))
    rw [hv]
    refine ⟨by have := getlt h; simp; omega, fun j x hx => ?_⟩
    cases j with
    | zero => simp at hx; subst hx; exact h
    | succ j => simp at hx
theorem fldF_sim {ag : Bool} {n off : Nat} {x v : VV} {xw : Value} (h : fldF ag n off x = some v) (hx : VR ι z lit x xw) : ∃ w, fldV ag n off xw = some w ∧ VR ι z lit v w := by
  unfold fldF at h
  split at h
  · obtain ⟨ws, rfl, hc⟩ := VR.agg_iff.1 hx
    exact fldC_sim h hc
  · cases h
theorem field_simV {t : TypeId} {f : Nat} {x v : VV} {xw : Value} (h : fieldVV P t f x = some v) (hx : VR ι z lit x xw) : ∃ w, pField P t f xw = some w ∧ VR ι z lit v w := by
  unfold fieldVV at h
  unfold pField
  split at h
  · rename_i fs hu
    rw [hu]
    simp only [Option.bind_eq_some_iff] at h ⊢
    obtain ⟨fd, h1, ag, h2, n, h3, h⟩ := h
    obtain ⟨w, k1, k2⟩ := fldF_sim h hx
    exact ⟨w, ⟨fd, h1, ag, h2, n, h3, k1⟩, k2⟩
  · cases h
theorem pt_part {v u : VV} {w : Value} {off : Nat} (h : VR ι z lit (.pt v) w) (hl : off + (cellsV u).length ≤ (cellsV v).length) (hc : ∀ (j : Nat) (x : VV), (cellsV u)[j]? = some x → (cellsV v)[off + j]? = some x) :
    ∃ a o, w = .pointer (some ⟨a, o, none⟩) ∧ VR ι z lit (.pt u) (.pointer (some ⟨a, o + off, none⟩)) := by
  obtain ⟨a, o, r, h1, rfl, h2, h3⟩ := h.pt_inv
  refine ⟨a, o, rfl, .pt h1 (by omega) fun j x w hx hw => h3 (off + j) x w (hc j x hx) ?_⟩
  rw [← Nat.add_assoc]; exact hw
theorem fldA_sim {ag : Bool} {n off : Nat} {x v : VV} {xw : Value} (h : fldA ag n off x = some v) (hx : VR ι z lit x xw) : ∃ w, padd off xw = some w ∧ VR ι z lit v w := by
  unfold fldA at h
  split at h
  · rename_i b o
    cases h
    obtain ⟨a, ha, rfl⟩ := hx.ptr_inv
    exact ⟨_, rfl, .ptr ha⟩
  · rename_i cs
    split at h
    · rename_i hC
      simp only [Option.map_eq_some_iff] at h
      obtain ⟨u, h1, rfl⟩ := h
      obtain ⟨g1, g2⟩ := fldC_cells h1 (List.all_eq_true.1 hC)
      obtain ⟨a, o, rfl, k⟩ := pt_part hx g1 g2
      exact ⟨_, rfl, k⟩
    · cases h
  · cases h
theorem fieldAddr_simV {t : TypeId} {f : Nat} {x v : VV} {xw : Value} (h : fieldAddrVV P t f x = some v) (hx : VR ι z lit x xw) : ∃ w, pFieldAddr P t f xw = some w ∧ VR ι z lit v w := by
  unfold fieldAddrVV at h
  unfold pFieldAddr
  split at h
  · rename_i fs hu
    rw [hu]
    simp only at h ⊢
    split at h
    · rename_i fd hf
      split at h
      · cases h
      · rename_i hs
        simp only [Option.bind_eq_some_iff] at h
        obtain ⟨ag, h2, n, h3, h⟩ := h
        obtain ⟨w, k1, k2⟩ := fldA_sim h hx
        exact ⟨w, by rw [hf]; simp only; rw [if_neg (by rw [h3]; rw [h3] at hs; simpa using hs)]; exact k1, k2⟩
    · cases h
  · cases h
theorem int_invV {x : VV} {k : IntKind} {i : Int} {w : Value} (h : VR ι z lit (.p (.int k i)) w) : w = .int k i := h.p_inv.1
theorem idxA_sim {ag : Bool} {len n : Nat} {x i v : VV} {xw iw : Value} (h : idxA ag len n x i = some v) (hx : VR ι z lit x xw) (hi : VR ι z lit i iw) : ∃ w, idxArr len n xw iw = some w ∧ VR ι z lit v w := by
  unfold idxA at h
  split at h
  · rename_i k i
    rw [int_invV (x := x) hi]
    split at h
    · rename_i hb
      obtain ⟨w, k1, k2⟩ := fldA_sim h hx
      exact ⟨w, by simp only [idxArr]; rw [if_pos hb]; exact k1, k2⟩
    · cases h
  · cases h
theorem idxF_sim {ag : Bool} {len n : Nat} {x i v : VV} {xw iw : Value} (h : idxF ag len n x i = some v) (hx : VR ι z lit x xw) (hi : VR ι z lit i iw) : ∃ w, idxV ag len n xw iw = some w ∧ VR ι z lit v w := by
  unfold idxF at h
  split at h
  · rename_i k i
    rw [int_invV (x := x) hi]
    split at h
    · rename_i hb
      obtain ⟨w, k1, k2⟩ := fldF_sim h hx
      exact ⟨w, by simp only [idxV]; rw [if_pos hb]; exact k1, k2⟩
    · cases h
  · cases h
theorem half_k {k f : Nat} (h : f < 2) : (2 * k + f) / 2 = k ∧ (2 * k + f) % 2 = f := by omega
theorem idxS_sim {n : Nat} {x i v : VV} {xw iw : Value} (h : idxS n x i = some v) (hx : VR ι z lit x xw) (hi : VR ι z lit i iw) : ∃ w, idxSl n xw iw = some w ∧ VR ι z lit v w := by
  unfold idxS at h
  split at h
  · rename_i k i
    rw [int_invV (x := x) hi]
    split at h
    · rename_i ag b o m k' f
      obtain ⟨a, ha, hf, hag, rfl⟩ := hx.rs_inv
      split at h
      · rename_i hb
        cases h
        obtain ⟨rfl, hb⟩ := hb
        exact ⟨_, by simp only [idxSl]; rw [if_pos ⟨(half_k hf).1, hb⟩]; rfl, .ptr ha⟩
      · cases h
    · rename_i f k' es
      obtain ⟨a, o, c, r, g1, rfl, g2, g3, g4, g5, g6, g7⟩ := hx.sl_inv
      split at h
      · rename_i hb
        obtain ⟨rfl, hb⟩ := hb
        simp only [Option.map_eq_some_iff] at h
        obtain ⟨e, he, rfl⟩ := h
        refine ⟨.pointer (some ⟨a, o + i.toNat * k', none⟩), by simp only [idxSl]; rw [if_pos ⟨(half_k g3).1, hb⟩]; rfl, .pt g1 ?_ fun j x w hx hw => g7 i.toNat e j x w he hx hw⟩
        rw [g6 _ _ he]
        have : (i.toNat + 1) * k' ≤ es.length * k' := Nat.mul_le_mul_right k' (getlt he)
        rw [Nat.add_mul] at this; omega
      · cases h
    · cases h
  · cases h
theorem indexAddr_simV {t : TypeId} {x i v : VV} {xw iw : Value} (h : indexAddrVV P t x i = some v) (hx : VR ι z lit x xw) (hi : VR ι z lit i iw) : ∃ w, pIndexAddr P t xw iw = some w ∧ VR ι z lit v w := by
  unfold indexAddrVV at h
  unfold pIndexAddr
  split at h
  · rename_i len e hu
    rw [hu]
    simp only [Option.bind_eq_some_iff] at h ⊢
    obtain ⟨ag, h1, n, h2, h⟩ := h
    obtain ⟨w, k1, k2⟩ := idxA_sim h hx hi
    exact ⟨w, ⟨n, h2, k1⟩, k2⟩
  · rename_i e hu
    rw [hu]
    simp only [Option.bind_eq_some_iff] at h ⊢
    obtain ⟨n, h2, h⟩ := h
    obtain ⟨w, k1, k2⟩ := idxS_sim h hx hi
    exact ⟨w, ⟨n, h2, k1⟩, k2⟩
  · cases h
theorem index_simV {t : TypeId} {x i v : VV} {xw iw : Value} (h : indexVV P t x i = some v) (hx : VR ι z lit x xw) (hi : VR ι z lit i iw) : ∃ w, pIndex P t xw iw = some w ∧ VR ι z lit v w := by
  unfold indexVV at h
  unfold pIndex
  split at h
  · rename_i len e hu
    rw [hu]
    simp only [Option.bind_eq_some_iff] at h ⊢
    obtain ⟨ag, h1, n, h2, h⟩ := h
    obtain ⟨w, k1, k2⟩ := idxF_sim h hx hi
    exact ⟨w, ⟨ag, h1, n, h2, k1⟩, k2⟩
  · rename_i hn
    simp only [Option.bind_eq_some_iff, Option.map_eq_some_iff] at h
    obtain ⟨a, h1, j, h2, v', h3, rfl⟩ := h
    obtain ⟨rfl, hp1⟩ := toV_eq h1 hx
    obtain ⟨rfl, hp2⟩ := toV_eq h2 hi
    split at h3
    · rename_i hpp
      refine ⟨v', ?_, VR_ofV (quietP_plain h3)⟩
      split
      · rename_i len e hu; exact absurd hu (hn len e)
      · rw [if_pos hpp]; exact h3
    · cases h3

/-! ### Slices -/
/-- Operands that may be missing. -/
def OptR (R : VV → Value → Prop) (x : Option VV) (xw : Option Value) : Prop := match x, xw with | none, none => True | some v, some w => R v w | _, _ => False
theorem OptR.none_iff {R : VV → Value → Prop} {x : Option VV} {xw : Option Value} (h : OptR R x xw) : xw.isNone = x.isNone := by cases x <;> cases xw <;> first | rfl | exact h.elim
theorem OptR.some_iff {R : VV → Value → Prop} {x : Option VV} {xw : Option Value} (h : OptR R x xw) : xw.isSome = x.isSome := by cases x <;> cases xw <;> first | rfl | exact h.elim

theorem bnd_simV {d l : Nat} {x : Option VV} {xw : Option Value} (h : bndV d x = some l) (hx : OptR (VR ι z lit) x xw) : bnd d xw = some l := by
  cases x with
  | none => cases xw with
    | none => exact h
    | some w => exact hx.elim
  | some v => cases xw with
    | none => exact hx.elim
    | some w =>
      unfold bndV at h
      split at h
      · rename_i he; cases he
      · rename_i k i he
        cases he
        rw [int_invV (x := .p (.int k i)) hx]
        exact h
      · cases h

theorem slArr_sim {vs : VS} {as : S} (hR : Rel s vs.σ as.σ) {ag : Bool} {n size : Nat} {lo hi mx : Option VV} {low hiw mxw : Option Value} {x v : VV} {xw : Value} (h : slArr ag n size vs lo hi mx x = some v) (hx : s.R x xw) (h1 : OptR s.R lo low) (h2 : OptR s.R hi hiw) (h3 : OptR s.R mx mxw) :
    ∃ w, sliceArr n size as low hiw mxw xw = some w ∧ s.R v w := by
  unfold slArr at h
  split at h
  · rename_i b o
    obtain ⟨a, ha, rfl⟩ := hx.ptr_inv
    simp only [Option.bind_eq_some_iff] at h
    obtain ⟨c, hc, l, hl, hh, hhe, m, hm, h⟩ := h
    obtain ⟨c', g1, g2, g3⟩ := row_sim hR hc ha
    split at h
    · rename_i hb
      cases h
      refine ⟨_, ?_, .rs ha (by split <;> omega) hb.2.2.2.2.2⟩
      simp only [sliceArr, g1, Option.bind_some, bnd_simV hl h1, bnd_simV hhe h2, bnd_simV hm h3]
      rw [if_pos ⟨hb.1, hb.2.1, hb.2.2.1, by omega, by rw [OptR.none_iff h2, OptR.none_iff h3]; exact hb.2.2.2.2.1⟩]
      rfl
    · cases h
  · cases h
end
end Go.Vm
