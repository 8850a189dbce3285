/-
  The operations of the machine of values, in the abstract machine: literals, plain operations.
-/
import Derived.Test.YtkpamaplmjlagaaVOps4
namespace Go.Vm
open Go Go.Ab
set_option linter.unusedVariables false

section
variable {P : Program} {s : St} {σ : List VObj} {α : List AObj}
variable {ι : Nat → Option Nat} {z : Nat → Option (List Value)} {lit : Nat → Prop}

theorem foldl_setCells (off : Nat) : ∀ (vs : List Value) (k : Nat) (c : Array Value), ((vs.zipIdx k).foldl (fun (cs : Array Value) (x : Value × Nat) => cs.setIfInBounds (off + x.2) x.1) c).toList = setCells c.toList (off + k) vs
  | [], k, c => rfl
  | v :: vs, k, c => by
    simp only [List.zipIdx_cons, List.foldl_cons, foldl_setCells off vs (k + 1), setCells, Array.toList_setIfInBounds]
    rfl
theorem setV_all2 {R : VV → Value → Prop} : ∀ {xs : List VV} {ws : List Value} {c : List VV} {c' : List Value} (o : Nat), All2 R c c' → All2 R xs ws → All2 R (setV c o xs) (setCells c' o ws)
  | [], ws, c, c', o, h, k => by rw [k.nil_inv]; exact h
  | x :: xs, ws, c, c', o, h, k => by
    obtain ⟨w, ws, rfl, k1, k2⟩ := k.cons_inv
    exact setV_all2 (o + 1) (h.set o k1) k2

/-- Parts of a literal. -/
def PartsR (R : VV → Value → Prop) (a : List (Nat × VV)) (b : List (Nat × Value)) : Prop := All2 (fun x y => x.1 = y.1 ∧ R x.2 y.2) a b

theorem fill_simV {place : Nat → Option (Nat × Nat)} : ∀ {parts : List (Nat × VV)} {partsw : List (Nat × Value)} {c r : List VV} {cw : Array Value}, fillV place c parts = some r → PartsR (VR ι z lit) parts partsw → All2 (VR ι z lit) c cw.toList →
    ∃ rw : Array Value, Instr.fill place cw partsw = some rw ∧ All2 (VR ι z lit) r rw.toList
  | [], partsw, c, r, cw, h, hp, hc => by
    rw [All2.nil_inv hp]; simp only [fillV, Option.some.injEq] at h; subst h; exact ⟨cw, rfl, hc⟩
  | (i, v) :: parts, partsw, c, r, cw, h, hp, hc => by
    obtain ⟨⟨i', w⟩, partsw, rfl, ⟨rfl, h1⟩, h2⟩ := All2.cons_inv hp
    simp only [fillV] at h
    split at h
    · cases h
    · rename_i off size hpl
      split at h
      · rename_i hb
        have hcw := h1.cells.1
        have hcc := hc.1
        simp at hcw hcc
        obtain ⟨rw', k1, k2⟩ := fill_simV (cw := (w.cells.zipIdx).foldl (fun (cs : Array Value) (x : Value × Nat) => cs.setIfInBounds (off + x.2) x.1) cw) h h2 (by
          rw [← Array.foldl_toList, Array.toList_zipIdx, foldl_setCells]
          exact setV_all2 off hc h1.cells)
        refine ⟨rw', ?_, k2⟩
        simp only [Instr.fill, hpl]
        rw [if_neg (by simp; omega)]
        exact k1
      · cases h
theorem zero_simV {t : TypeId} {v : VV} (h : zeroVV P t = some v) : ∃ w, zeroT P t = some w ∧ VR ι z lit v w ∧ plain w = true := by
  unfold zeroVV at h
  simp only [Option.map_eq_some_iff] at h
  obtain ⟨w, h1, rfl⟩ := h
  have hp : plain w = true := by
    unfold zeroT at h1
    split at h1
    · split at h1
      · cases h1; assumption
      · cases h1
    · cases h1
  exact ⟨w, h1, VR_ofV hp, hp⟩
theorem parts_cell {parts : List (Nat × VV)} {partsw : List (Nat × Value)} (hp : PartsR (VR ι z lit) parts partsw) (h : parts.all (fun x => (cellsV x.2).all isC) = true) : partsw.all (fun p => p.2.cells.all isCell) = true := by
  induction parts generalizing partsw with
  | nil => rw [All2.nil_inv hp]; rfl
  | cons x parts ih =>
    obtain ⟨y, partsw, rfl, ⟨_, h1⟩, h2⟩ := All2.cons_inv hp
    simp only [List.all_cons, Bool.and_eq_true] at h ⊢
    refine ⟨?_, ih h2 h.2⟩
    rw [← Array.all_toList, h1.cells.isC]; exact h.1
theorem bld_sim {zv v : VV} {zw : Value} {pl : Nat → Option (Nat × Nat)} {parts : List (Nat × VV)} {partsw : List (Nat × Value)} (h : bldV zv pl parts = some v) (hz : VR ι z lit zv zw) (hp : PartsR (VR ι z lit) parts partsw) :
    ∃ w, Ab.bldV zw pl partsw = some w ∧ VR ι z lit v w := by
  unfold bldV at h
  split at h
  · rename_i hc
    simp only [Option.map_eq_some_iff] at h
    obtain ⟨r, h1, rfl⟩ := h
    obtain ⟨rw', k1, k2⟩ := fill_simV h1 hp hz.cells
    refine ⟨.agg rw', ?_, VR.agg_iff.2 ⟨_, rfl, k2⟩⟩
    unfold Ab.bldV
    rw [if_pos (parts_cell hp hc), k1]; rfl
  · cases h
theorem build_simV {t : TypeId} {parts : List (Nat × VV)} {partsw : List (Nat × Value)} {v : VV} (h : buildVV P t parts = some v) (hp : PartsR (VR ι z lit) parts partsw) : ∃ w, pBuild P t partsw = some w ∧ VR ι z lit v w := by
  unfold buildVV at h
  unfold pBuild
  simp only [Option.bind_eq_some_iff] at h
  obtain ⟨zv, hz, h⟩ := h
  obtain ⟨zw, k1, k2, _⟩ := zero_simV (ι := ι) (z := z) (lit := lit) hz
  rw [k1, Option.bind_some]
  split at h
  · rename_i fs hu
    rw [hu]
    simp only [Option.bind_eq_some_iff] at h ⊢
    obtain ⟨places, h1, h⟩ := h
    obtain ⟨w, q1, q2⟩ := bld_sim h k2 hp
    exact ⟨w, ⟨places, h1, q1⟩, q2⟩
  · rename_i n e hu
    rw [hu]
    simp only [Option.bind_eq_some_iff] at h ⊢
    obtain ⟨sz, h1, h⟩ := h
    obtain ⟨w, q1, q2⟩ := bld_sim h k2 hp
    exact ⟨w, ⟨sz, h1, q1⟩, q2⟩
  · cases h

theorem putEs_length : ∀ (parts : List (Nat × VV)) (es : List VV), (putEs es parts).length = es.length
  | [], _ => rfl
  | (i, v) :: r, es => by simp [putEs, putEs_length r]
theorem putEs_mem {Q : VV → Prop} : ∀ (parts : List (Nat × VV)) (es : List VV), (∀ e ∈ es, Q e) → (∀ x ∈ parts, Q x.2) → ∀ e ∈ putEs es parts, Q e
  | [], es, h, _, e, he => h e he
  | (i, v) :: r, es, h, hp, e, he => putEs_mem r (es.set i v) (fun e he => by
      rcases List.mem_or_eq_of_mem_set he with h1 | rfl
      · exact h e h1
      · exact hp (i, e) (by simp)) (fun x hx => hp x (by simp [hx])) e he
/-- A part is an element. -/
theorem flat_set {k : Nat} : ∀ {es : List VV} {i : Nat} {v : VV}, (∀ e ∈ es, (cellsV e).length = k) → (cellsV v).length = k → i < es.length → flat (es.set i v) = setV (flat es) (i * k) (cellsV v)
  | [], i, v, _, _, hi => by simp at hi
  | e :: es, 0, v, h, hv, _ => by
    rw [List.set_cons_zero, flat_cons, flat_cons, Nat.zero_mul]
    have h0 := h e (by simp)
    apply List.ext_getElem?
    intro j
    rw [setV_get]
    rcases Nat.lt_or_ge j k with hj | hj
    · rw [if_pos (by simp; omega), List.getElem?_append_left (by omega), Nat.sub_zero]
    · rw [if_neg (by omega), List.getElem?_append_right (by omega), List.getElem?_append_right (by omega), hv, h0]
  | e :: es, i + 1, v, h, hv, hi => by
    have h0 := h e (by simp)
    rw [List.set_cons_succ, flat_cons, flat_cons, flat_set (fun e he => h e (by simp [he])) hv (by simpa using hi)]
    apply List.ext_getElem?
    intro j
    rw [setV_get]
    have hm : (i + 1) * k = i * k + k := by rw [Nat.add_mul]; omega
    rcases Nat.lt_or_ge j k with hj | hj
    · rw [if_neg (by omega), List.getElem?_append_left (by omega), List.getElem?_append_left (by omega)]
    · rw [List.getElem?_append_right (by omega), List.getElem?_append_right (by omega), h0, setV_get]
      by_cases hc : i * k ≤ j - k ∧ j - k < i * k + (cellsV v).length ∧ j - k < (flat es).length
      · rw [if_pos hc, if_pos ⟨by omega, by omega, by rw [List.length_append]; omega⟩]; congr 1; omega
      · rw [if_neg hc, if_neg fun hh => hc ⟨by omega, by omega, by have := hh.2.2; rw [List.length_append] at this; omega⟩]
theorem fill_put {k : Nat} : ∀ (parts : List (Nat × VV)) (es : List VV), (∀ e ∈ es, (cellsV e).length = k) → (∀ x ∈ parts, (cellsV x.2).length = k ∧ x.1 < es.length) → fillV (fun i => some (i * k, k)) (flat es) parts = some (flat (putEs es parts))
  | [], es, _, _ => rfl
  | (i, v) :: r, es, h, hp => by
    have h1 := hp (i, v) (by simp)
    have hle : (i + 1) * k ≤ es.length * k := Nat.mul_le_mul_right k h1.2
    rw [Nat.add_mul] at hle
    simp only [fillV, putEs]
    rw [if_pos ⟨h1.1, by rw [flat_length h]; omega⟩, ← flat_set h h1.1 h1.2]
    exact fill_put r _ (fun e he => by
      rcases List.mem_or_eq_of_mem_set he with h2 | rfl
      · exact h e h2
      · exact h1.1) (fun x hx => by rw [List.length_set]; exact hp x (by simp [hx]))
theorem mkCells_sim {zv : VV} {zw : Value} {k : Nat} (hk : k ≠ 0) (hz : VR ι z lit zv zw) (hl : (cellsV zv).length = k) (n : Nat) : All2 (VR ι z lit) (flat (List.replicate n zv)) (mkCells zw.cells n) := by
  have hc := hz.cells
  have hcl := hc.1
  simp at hcl
  have hall : ∀ e ∈ List.replicate n zv, (cellsV e).length = k := fun e he => by rw [(List.mem_replicate.1 he).2]; exact hl
  have hfl := flat_length hall
  rw [List.length_replicate] at hfl
  unfold mkCells
  split
  · rename_i h1
    have hk1 : k = 1 := by omega
    subst hk1
    refine ⟨by rw [hfl]; simp, fun j x w hx hw => ?_⟩
    obtain ⟨e, g1, g2⟩ := flat_inv (by decide) hall hx
    rw [List.getElem?_replicate] at g1 hw
    split at g1
    · cases g1
      split at hw
      · cases hw
        rw [Nat.mod_one] at g2
        exact hc.2 0 x _ g2 (by simp [Array.getD, h1])
      · cases hw
    · cases g1
  · rename_i h1
    have hzk : zw.cells.size = k := by omega
    refine ⟨by rw [hfl, hzk]; simp, fun j x w hx hw => ?_⟩
    obtain ⟨e, g1, g2⟩ := flat_inv hk hall hx
    rw [List.getElem?_replicate] at g1
    split at g1
    · cases g1
      rw [List.getElem?_map, Option.map_eq_some_iff] at hw
      obtain ⟨i, hi, rfl⟩ := hw
      have hji : i = j := by rw [List.getElem?_range (by have := getlt hi; simpa using this)] at hi; simpa using hi.symm
      subst hji
      refine hc.2 (i % k) x _ g2 ?_
      have : i % zw.cells.size < zw.cells.size := Nat.mod_lt _ (by omega)
      rw [← hcl, hl]
      simp [Array.getD_eq_getD_getElem?]
      rw [Array.getElem?_eq_getElem (by rw [← hcl, hl]; exact Nat.mod_lt _ (by omega))]
      rfl
    · cases g1

theorem bsl_sim {vs vs1 : VS} {as : S} (hR : Rel s vs.σ as.σ) {alt ag : Bool} {n len : Nat} {zv v : VV} {zw : Value} {parts : List (Nat × VV)} {partsw : List (Nat × Value)} (h : bslV alt ag n zv len parts vs = some (v, vs1)) (hz : s.R zv zw) (hp : PartsR s.R parts partsw) :
    ∃ w as1 s1, bldSl n zw len partsw as = some (w, as1) ∧ Rel s1 vs1.σ as1.σ ∧ Ex Loc.fix s vs.σ as.σ s1 vs1.σ as1.σ [] ∧ s1.R v w ∧ vs1.ev = vs.ev ∧ vs1.wr = vs.wr ∧ (vs1.σ = vs.σ ∨ ∃ o, vs1.σ = vs.σ ++ [o]) := by
  unfold bslV at h
  split at h
  · rename_i hc
    obtain ⟨hc1, hc2, hc3, hc4, hc5⟩ := hc
    have hpt : ∀ x ∈ parts, (cellsV x.2).all isC = true ∧ (cellsV x.2).length = n ∧ x.1 < len := fun x hx => by
      have := (List.all_eq_true.1 hc5) x hx
      simp only [Bool.and_eq_true, decide_eq_true_eq] at this
      exact ⟨this.1.1, this.1.2, this.2⟩
    have hrep : ∀ e ∈ List.replicate len zv, (cellsV e).length = n := fun e he => by rw [(List.mem_replicate.1 he).2]; exact hc2
    have hf := fill_put (k := n) parts (List.replicate len zv) hrep (fun x hx => ⟨(hpt x hx).2.1, by rw [List.length_replicate]; exact (hpt x hx).2.2⟩)
    obtain ⟨rw', k1, k2⟩ := fill_simV (cw := (mkCells zw.cells len).toArray) hf hp (by simpa using mkCells_sim hc3 hz hc2 len)
    have hzc := hz.cells.1
    simp at hzc
    have hcell : partsw.all (fun p => p.2.cells.all isCell) = true := parts_cell hp (List.all_eq_true.2 fun x hx => (hpt x hx).1)
    have hA : bldSl n zw len partsw as = some (sl as.σ.length 0 len n 1, ⟨as.σ ++ [.arr rw'.toList 0 true], as.ev⟩) := by
      unfold bldSl
      rw [if_pos ⟨hc1, by omega, hc3, hcell⟩, k1]; rfl
    have hel : ∀ e ∈ putEs (List.replicate len zv) parts, (cellsV e).length = n := putEs_mem parts _ hrep fun x hx => (hpt x hx).2.1
    have hlen : (putEs (List.replicate len zv) parts).length = len := by rw [putEs_length, List.length_replicate]
    cases alt with
    | true =>
      simp only [if_true, Option.some.injEq, Prod.mk.injEq] at h
      obtain ⟨rfl, rfl⟩ := h
      obtain ⟨s1, q1, q2, q3, _⟩ := rel_new hR 0 0 (Nat.le_refl _) (Nat.zero_le _) k2
      exact ⟨_, _, s1, hA, q1, q2, .rs q3 (by decide) hc4, rfl, rfl, .inr ⟨_, rfl⟩⟩
    | false =>
      simp only [Bool.false_eq_true, if_false] at h
      split at h
      · rename_i hs
        simp only [Option.some.injEq, Prod.mk.injEq] at h
        obtain ⟨rfl, rfl⟩ := h
        have hsim : (flat (putEs (List.replicate len zv) parts)).all simpleV = true := by
          rw [List.all_eq_true]
          intro x hx
          simp only [flat, List.mem_flatMap] at hx
          obtain ⟨e, he, hx⟩ := hx
          have : (cellsV e).all simpleV = true := putEs_mem (Q := fun e => (cellsV e).all simpleV = true) parts _ (fun e he => by rw [(List.mem_replicate.1 he).2]; exact hs.2) (fun x hx => (List.all_eq_true.1 hs.1) x hx) e he
          exact (List.all_eq_true.1 this) x hx
        obtain ⟨s1, q1, q2, q3, q4, _⟩ := rel_newz hR (c' := rw'.toList) 0 (Nat.zero_le _) (all_refl k2 hsim) true
        have hrl : rw'.toList.length = len * n := by rw [← k2.1, flat_length hel, hlen]
        have hm := sl_mk (ι := s1.ι) (z := s1.z) (lit := s1.lit) (f := 1) (k := n) (a := as.σ.length) (o := 0) (c := 1) (es := putEs (List.replicate len zv) parts) q3 (by rw [hrl, hlen]; omega) (by decide) (.inr (.inl ⟨rfl, rfl, q4 rfl⟩)) hc3 hel (by
          rw [List.drop_zero, List.take_of_length_le (by rw [hrl, hlen]; exact Nat.le_refl _)]
          exact k2.imp fun x w _ hxw => q2.R hR hxw)
        rw [hlen] at hm
        exact ⟨_, _, s1, hA, q1, q2, hm, rfl, rfl, .inl rfl⟩
      · cases h
  · cases h
theorem buildSlice_simV {vs vs1 : VS} {as : S} (hR : Rel s vs.σ as.σ) {alt : Bool} {t : TypeId} {len : Nat} {v : VV} {parts : List (Nat × VV)} {partsw : List (Nat × Value)} (h : buildSliceVV P alt t len parts vs = some (v, vs1)) (hp : PartsR s.R parts partsw) :
    ∃ w as1 s1, pBuildSlice P t len partsw as = some (w, as1) ∧ Rel s1 vs1.σ as1.σ ∧ Ex Loc.fix s vs.σ as.σ s1 vs1.σ as1.σ [] ∧ s1.R v w ∧ vs1.ev = vs.ev ∧ vs1.wr = vs.wr ∧ (vs1.σ = vs.σ ∨ ∃ o, vs1.σ = vs.σ ++ [o]) := by
  unfold buildSliceVV at h
  simp only [Option.bind_eq_some_iff] at h
  obtain ⟨e, h1, ag, h2, n, h3, zv, h4, h⟩ := h
  obtain ⟨zw, k1, k2, _⟩ := zero_simV (ι := s.ι) (z := s.z) (lit := s.lit) h4
  obtain ⟨w, as1, s1, q1, q⟩ := bsl_sim hR h k2 hp
  exact ⟨w, as1, s1, by unfold pBuildSlice; rw [h1, Option.bind_some, h3, Option.bind_some, k1, Option.bind_some]; exact q1, q⟩
theorem makeSlice_simV {vs vs1 : VS} {as : S} (hR : Rel s vs.σ as.σ) {t : TypeId} {l c v : VV} {lw cw : Value} (h : makeSliceVV P t l c vs = some (v, vs1)) (hl : s.R l lw) (hc : s.R c cw) :
    ∃ w as1 s1, pMakeSlice P t lw cw as = some (w, as1) ∧ Rel s1 vs1.σ as1.σ ∧ Ex Loc.fix s vs.σ as.σ s1 vs1.σ as1.σ [] ∧ s1.R v w ∧ vs1.ev = vs.ev ∧ vs1.wr = vs.wr ∧ (vs1.σ = vs.σ ∨ ∃ o, vs1.σ = vs.σ ++ [o]) := by
  unfold makeSliceVV at h
  simp only [Option.bind_eq_some_iff] at h
  obtain ⟨e, h1, ag, h2, n, h3, by_, h5, zv, h4, h⟩ := h
  obtain ⟨zw, k1, k2, _⟩ := zero_simV (ι := s.ι) (z := s.z) (lit := s.lit) h4
  unfold mksV at h
  split at h
  · rename_i li ci
    obtain ⟨rfl, _⟩ := hl.p_inv
    obtain ⟨rfl, _⟩ := hc.p_inv
    split at h
    · rename_i hb
      simp only [Option.some.injEq, Prod.mk.injEq] at h
      obtain ⟨rfl, rfl⟩ := h
      have hzc := k2.cells.1
      simp at hzc
      obtain ⟨s1, q1, q2, q3, _⟩ := rel_new hR 0 0 (Nat.le_refl _) (Nat.zero_le _) (mkCells_sim hb.2.2.2.2.2.1 k2 hb.2.2.2.2.1 li.toNat)
      refine ⟨_, ⟨_, as.ev⟩, s1, ?_, q1, q2, .rs q3 (by split <;> omega) hb.2.2.2.2.2.2.1, rfl, rfl, .inr ⟨_, rfl⟩⟩
      unfold pMakeSlice
      rw [h1, Option.bind_some, h3, Option.bind_some, h5, Option.bind_some, k1, Option.bind_some]
      simp only [mkSl]
      rw [if_pos ⟨hb.1, hb.2.1, hb.2.2.1, hb.2.2.2.1, by omega, hb.2.2.2.2.2.1⟩]; rfl
    · cases h
  · cases h

/-! ### Plain operations -/
theorem lenSl_sim {x v : VV} {xw : Value} (h : lenSlV x = some v) (hx : VR ι z lit x xw) : ∃ w, lenSl xw = some w ∧ VR ι z lit v w := by
  unfold lenSlV at h
  split at h
  · obtain ⟨a, ha, hf, hag, rfl⟩ := hx.rs_inv; cases h; exact ⟨_, rfl, .p rfl⟩
  · obtain ⟨a, o, c, r, g1, rfl, _⟩ := hx.sl_inv; cases h; exact ⟨_, rfl, .p rfl⟩
  · obtain ⟨rfl, _⟩ := hx.p_inv; cases h; exact ⟨_, rfl, .p rfl⟩
  · cases h
theorem len_simV {ts : Array TypeId} {x v : VV} {xw : Value} (h : lenVV P ts x = some v) (hx : VR ι z lit x xw) : ∃ w, pLen P ts xw = some w ∧ VR ι z lit v w := by
  unfold lenVV at h
  unfold pLen
  split at h
  · rename_i t ht
    rw [ht]
    simp only
    split at h
    · rename_i hu
      rw [hu]
      unfold lenStrV at h
      split at h
      · obtain ⟨rfl, _⟩ := hx.p_inv; cases h; exact ⟨_, rfl, .p rfl⟩
      · cases h
    · rename_i n e hu; rw [hu]; cases h; exact ⟨_, rfl, .p rfl⟩
    · rename_i e hu; rw [hu]; exact lenSl_sim h hx
    · rename_i a b hu
      rw [hu]
      unfold lenMapV at h
      split at h
      · obtain ⟨rfl, _⟩ := hx.p_inv; cases h; exact ⟨_, rfl, .p rfl⟩
      · cases h
    · cases h
  · cases h
theorem plain_quietP {P : Program} {op : BinOp} {t : TypeId} {a b v : Value} (h : binq P op t a b = some v) : plain v = true := by
  unfold binq at h
  split at h
  · exact quietP_plain h
  · cases h
theorem binq_sim {op : BinOp} {t : TypeId} {x y v : VV} {xw yw : Value} (h : binqV P op t x y = some v) (hx : VR ι z lit x xw) (hy : VR ι z lit y yw) : ∃ w, binq P op t xw yw = some w ∧ VR ι z lit v w := by
  unfold binqV at h
  simp only [Option.bind_eq_some_iff, Option.map_eq_some_iff] at h
  obtain ⟨a, h1, b, h2, w, h3, rfl⟩ := h
  obtain ⟨rfl, _⟩ := toV_eq h1 hx
  obtain ⟨rfl, _⟩ := toV_eq h2 hy
  exact ⟨w, h3, VR_ofV (plain_quietP h3)⟩
theorem nilP_sim {x y : VV} {xw yw : Value} (hx : VR ι z lit x xw) (hy : VR ι z lit y yw) (h : nilPV x y = true) : nilP xw yw = true := by
  unfold nilPV at h
  split at h
  · obtain ⟨a, _, rfl⟩ := hx.ptr_inv; obtain ⟨rfl, _⟩ := hy.p_inv; rfl
  · obtain ⟨a, _, rfl⟩ := hy.ptr_inv; obtain ⟨rfl, _⟩ := hx.p_inv; rfl
  · obtain ⟨a, o, r, _, rfl, _⟩ := hx.pt_inv; obtain ⟨rfl, _⟩ := hy.p_inv; rfl
  · obtain ⟨a, o, r, _, rfl, _⟩ := hy.pt_inv; obtain ⟨rfl, _⟩ := hx.p_inv; rfl
  · cases h
theorem nilS_sim {x y : VV} {xw yw : Value} (hx : VR ι z lit x xw) (hy : VR ι z lit y yw) (h : nilSV x y = true) : nilS xw yw = true := by
  unfold nilSV at h
  split at h
  · obtain ⟨a, _, _, _, rfl⟩ := hx.rs_inv; obtain ⟨rfl, _⟩ := hy.p_inv; rfl
  · obtain ⟨a, _, _, _, rfl⟩ := hy.rs_inv; obtain ⟨rfl, _⟩ := hx.p_inv; rfl
  · obtain ⟨a, o, c, r, _, rfl, _⟩ := hx.sl_inv; obtain ⟨rfl, _⟩ := hy.p_inv; rfl
  · obtain ⟨a, o, c, r, _, rfl, _⟩ := hy.sl_inv; obtain ⟨rfl, _⟩ := hx.p_inv; rfl
  · cases h
theorem nilF_sim {x y : VV} {xw yw : Value} (hx : VR ι z lit x xw) (hy : VR ι z lit y yw) (h : nilFV x y = true) : nilF xw yw = true := by
  unfold nilFV at h
  split at h
  · obtain ⟨a, b, rfl, _⟩ := hx.fn_inv; obtain ⟨rfl, _⟩ := hy.p_inv; rfl
  · obtain ⟨a, b, rfl, _⟩ := hy.fn_inv; obtain ⟨rfl, _⟩ := hx.p_inv; rfl
  · cases h
theorem binn_sim {nf : VV → VV → Bool} {nf' : Value → Value → Bool} {op : BinOp} {t : TypeId} {x y v : VV} {xw yw : Value} (hn : nf x y = true → nf' xw yw = true) (hn' : nf x y = false → ∀ a b, toV x = some a → toV y = some b → nf' a b = false) (h : binnV P nf op t x y = some v) (hx : VR ι z lit x xw) (hy : VR ι z lit y yw) : ∃ w, binn P nf' op t xw yw = some w ∧ VR ι z lit v w := by
  unfold binnV at h
  unfold binn
  split at h
  · rename_i h1
    rw [if_pos (hn h1)]
    split at h
    · cases h; exact ⟨_, rfl, .p rfl⟩
    · cases h; exact ⟨_, rfl, .p rfl⟩
    · cases h
  · rename_i h1
    have h2 := h
    unfold binqV at h2
    simp only [Option.bind_eq_some_iff] at h2
    obtain ⟨a, g1, b, g2, _⟩ := h2
    have := hn' (by simpa using h1) a b g1 g2
    obtain ⟨e1, _⟩ := toV_eq g1 hx
    obtain ⟨e2, _⟩ := toV_eq g2 hy
    rw [e1, e2] at this
    rw [this]
    exact binq_sim h hx hy
theorem plain_cases {x : VV} {a : Value} (h : toV x = some a) : (∃ v, x = .p v ∧ a = v) ∨ ∃ cs, a = .agg cs := by
  cases x with
  | p v => simp [toV] at h; exact .inl ⟨v, rfl, h.symm⟩
  | agg cs => simp [toV] at h; obtain ⟨l, _, rfl⟩ := h; exact .inr ⟨_, rfl⟩
  | _ => simp [toV] at h
theorem plain_not {nf : Value → Value → Bool} {x y : VV} {xw yw : Value} (hx : VR ι z lit x xw) (hy : VR ι z lit y yw) {a b : Value} (h1 : toV x = some a) (h2 : toV y = some b) (hnf : ∀ a b, plain a = true → plain b = true → nf a b = false) : nf a b = false :=
  hnf a b (by have := toV_eq h1 hx; rw [this.1]; rw [this.1] at this; exact this.2) (by have := toV_eq h2 hy; rw [this.1]; rw [this.1] at this; exact this.2)
theorem nilP_plain (a b : Value) (ha : plain a = true) (hb : plain b = true) : nilP a b = false := by
  unfold nilP
  split
  · simp [plain, plain1] at ha
  · simp [plain, plain1] at hb
  · rfl
theorem nilS_plain (a b : Value) (ha : plain a = true) (hb : plain b = true) : nilS a b = false := by
  unfold nilS
  split
  · simp [plain, plain1] at ha
  · simp [plain, plain1] at hb
  · rfl
theorem nilF_plain (a b : Value) (ha : plain a = true) (hb : plain b = true) : nilF a b = false := by
  unfold nilF
  split
  · simp [plain, plain1] at ha
  · simp [plain, plain1] at hb
  · rfl
theorem nilM_plain (a b : Value) (ha : plain a = true) (hb : plain b = true) : nilM a b = false := by
  unfold nilM
  split
  · simp [plain, plain1] at ha
  · simp [plain, plain1] at hb
  · rfl
theorem bin_simV {op : BinOp} {t : TypeId} {x y v : VV} {xw yw : Value} (h : pBinV P op t x y = some v) (hx : VR ι z lit x xw) (hy : VR ι z lit y yw) : ∃ w, pBin P op t xw yw = some w ∧ VR ι z lit v w := by
  unfold pBinV at h
  unfold pBin
  split at h
  · rename_i e hu; rw [hu]; exact binn_sim (nilP_sim hx hy) (fun _ a b h1 h2 => plain_not hx hy h1 h2 nilP_plain) h hx hy
  · rename_i e hu; rw [hu]; exact binn_sim (nilS_sim hx hy) (fun _ a b h1 h2 => plain_not hx hy h1 h2 nilS_plain) h hx hy
  · rename_i a b hu
    rw [hu]
    refine binn_sim (nf := fun _ _ => false) (by simp) (fun _ a b h1 h2 => plain_not hx hy h1 h2 nilM_plain) ?_ hx hy
    unfold binnV; simpa using h
  · rename_i a b c hu; rw [hu]; exact binn_sim (nilF_sim hx hy) (fun _ a b h1 h2 => plain_not hx hy h1 h2 nilF_plain) h hx hy
  · rename_i n1 n2 n3 n4
    obtain ⟨w, k1, k2⟩ := binq_sim h hx hy
    refine ⟨w, ?_, k2⟩
    split
    · rename_i e hu; exact absurd hu (n1 e)
    · rename_i e hu; exact absurd hu (n2 e)
    · rename_i a b hu; exact absurd hu (n3 a b)
    · rename_i a b c hu; exact absurd hu (n4 a b c)
    · exact k1
theorem un_simV {op : UnOp} {x v : VV} {xw : Value} (h : pUnV P op x = some v) (hx : VR ι z lit x xw) : ∃ w, pUn P op xw = some w ∧ VR ι z lit v w := by
  unfold pUnV at h
  simp only [Option.bind_eq_some_iff, Option.map_eq_some_iff] at h
  obtain ⟨a, h1, w, h3, rfl⟩ := h
  obtain ⟨rfl, _⟩ := toV_eq h1 hx
  refine ⟨w, h3, VR_ofV ?_⟩
  unfold pUn at h3
  by_cases hp : plain a = true
  · rw [if_pos hp] at h3; exact quietP_plain h3
  · rw [if_neg hp] at h3; cases h3
theorem conv_simV {src dst : TypeId} {x v : VV} {xw : Value} (h : pConvV P src dst x = some v) (hx : VR ι z lit x xw) : ∃ w, pConv P src dst xw = some w ∧ VR ι z lit v w := by
  unfold pConvV at h
  unfold pConv
  split at h
  · rename_i k1 k2 hu1 hu2
    rw [hu1, hu2]
    unfold cvIV at h
    split at h
    · obtain ⟨rfl, _⟩ := hx.p_inv; cases h; exact ⟨_, rfl, .p rfl⟩
    · cases h
  · rename_i hn
    simp only [Option.bind_eq_some_iff, Option.map_eq_some_iff] at h
    obtain ⟨a, h1, w, h3, rfl⟩ := h
    obtain ⟨rfl, _⟩ := toV_eq h1 hx
    refine ⟨w, ?_, VR_ofV ?_⟩
    · split
      · rename_i k1 k2 hu1 hu2; exact absurd hu2 (hn k1 k2 hu1)
      · exact h3
    · by_cases hp : plain a = true
      · rw [if_pos hp] at h3; exact quietP_plain h3
      · rw [if_neg hp] at h3; cases h3
theorem mm_simV {m : Bool} {ts : Array TypeId} {t : TypeId} {xs : List VV} {xws : List Value} {v : VV} (h : pMMV P m ts t xs = some v) (hx : All2 (VR ι z lit) xs xws) : ∃ w, pMM P m ts t xws = some w ∧ VR ι z lit v w := by
  unfold pMMV at h
  simp only [Option.bind_eq_some_iff, Option.map_eq_some_iff] at h
  obtain ⟨l, h1, w, h3, rfl⟩ := h
  have := toVs_eq h1 hx
  subst this
  refine ⟨w, h3, VR_ofV ?_⟩
  unfold pMM at h3
  split at h3
  · exact quietP_plain h3
  · cases h3
theorem ext_simV {i : Nat} {x v : VV} {xw : Value} (h : extV i x = some v) (hx : VR ι z lit x xw) : ∃ w, pExtract i xw = some w ∧ VR ι z lit v w := by
  unfold extV at h
  split at h
  · obtain ⟨ws, rfl, hc⟩ := VR.tup_iff.1 hx
    simp only [Option.map_eq_some_iff] at h
    obtain ⟨y, hy, rfl⟩ := h
    obtain ⟨w, k1, k2⟩ := hc.get hy
    exact ⟨w, by simpa [pExtract] using k1, by rw [k2.cls]; exact k2⟩
  · cases h
theorem pick_simV {a b : Option VV} {aw bw : Option Value} {c v : VV} {cw : Value} (h : pickV a b c = some v) (hc : VR ι z lit c cw) (ha : ∀ v, a = some v → ∃ w, aw = some w ∧ VR ι z lit v w) (hb : ∀ v, b = some v → ∃ w, bw = some w ∧ VR ι z lit v w) : ∃ w, pPick aw bw cw = some w ∧ VR ι z lit v w := by
  unfold pickV at h
  split at h
  · rename_i t
    obtain ⟨rfl, _⟩ := hc.p_inv
    cases t with
    | true => simp only [if_true] at h; obtain ⟨w, k1, k2⟩ := ha v h; exact ⟨w, by simp [pPick, k1], k2⟩
    | false => simp only [Bool.false_eq_true, if_false] at h; obtain ⟨w, k1, k2⟩ := hb v h; exact ⟨w, by simp [pPick, k1], k2⟩
  · cases h
theorem nilC_simV {x v : VV} {xw : Value} (h : nilCV x = some v) (hx : VR ι z lit x xw) : ∃ w, pNilCheck xw = some w ∧ VR ι z lit v w := by
  unfold nilCV at h
  split at h
  · cases h
  · cases h
  · cases h
  · cases h
  · rename_i n1 n2 n3 n4
    cases h
    refine ⟨xw, ?_, hx⟩
    unfold pNilCheck
    split
    · rename_i hn
      cases hx with
      | p hp => exact absurd rfl n1
    · cases hx with
      | p hp => exact absurd rfl n2
    · cases hx with
      | p hp => exact absurd rfl n3
    · cases hx with
      | p hp => simp [plain1] at hp
      | fn => exact absurd rfl (n4 _ _ _)
    · rfl
theorem simple0_sim {x : VV} {xw : Value} (h : simpleV x = true) (hx : VR ι z lit x xw) : simple0 xw = true := by
  cases hx <;> first | rfl | (simp [simpleV] at h; done) | skip
  rename_i hp
  cases xw <;> first | rfl | (simp [plain1] at hp; done) | skip
  · rename_i a; cases a <;> first | rfl | (simp [plain1] at hp)
  · rename_i a n c; cases a with
    | none => simpa [simple0] using hp
    | some a => simp [plain1] at hp
  · rename_i a; cases a <;> first | rfl | (simp [plain1] at hp)
theorem simple0_all {xs : List VV} {ws : List Value} (h : All2 (VR ι z lit) xs ws) (hs : xs.all simpleV = true) : ws.all simple0 = true := by
  induction xs generalizing ws with
  | nil => rw [h.nil_inv]; rfl
  | cons x xs ih =>
    obtain ⟨y, b, rfl, h1, h2⟩ := h.cons_inv
    simp only [List.all_cons, Bool.and_eq_true] at hs ⊢
    exact ⟨simple0_sim hs.1 h1, ih h2 hs.2⟩
theorem mkFn_simV {f : Fn} {a b : List VV} {aw bw : List Value} {v : VV} (h : mkFnV f a b = some v) (ha : All2 (VR ι z lit) a aw) (hb : All2 (VR ι z lit) b bw) : ∃ w, mkFn f aw bw = some w ∧ VR ι z lit v w := by
  unfold mkFnV at h
  split at h
  · rename_i hc
    cases h
    simp only [Bool.and_eq_true] at hc
    refine ⟨.func f aw.toArray bw.toArray, ?_, .fn ha.1 hb.1 ha.2 hb.2⟩
    unfold mkFn
    rw [if_pos (by rw [simple0_all ha hc.1, simple0_all hb hc.2]; rfl)]
  · cases h
end
end Go.Vm
