/-
  Each operation of the model goes with the abstract machine's own.
-/
import Derived.Test.YtkpamaplmjlagaaInv
import Derived.Laws.Entries
namespace Go.Ab
open Go

section
variable {P : Program} {w : World}

theorem run_isAgg {t : TypeId} {b : Bool} (h : aggT P t = some b) : (isAgg t).run P w = .ok b w := by
  unfold aggT at h
  unfold isAgg
  cases hu : P.underlying t with
  | none => simp [hu] at h
  | some d => cases d <;> simp [hu] at h <;> subst h <;> simp [run_underlying hu]
theorem run_typeInfo' {t : TypeId} {i : TypeInfo} (h : P.info? t = some i) : (typeInfo t).run P w = .ok i w := by simp [typeInfo, h]
theorem run_sizeOf {t : TypeId} {n : Nat} (h : sizeT P t = some n) : (sizeOf t).run P w = .ok n w := by
  unfold sizeT at h
  cases hi : P.info? t with
  | none => simp [hi] at h
  | some i => simp [hi] at h; simp [sizeOf, run_typeInfo' hi, h]
theorem run_zeroValue {t : TypeId} {z : Value} (h : zeroT P t = some z) : (zeroValue t).run P w = .ok z w ∧ plain z = true := by
  unfold zeroT at h
  cases hi : P.info? t with
  | none => simp [hi] at h
  | some i =>
    cases hz : i.zero with
    | none => simp [hi, hz] at h
    | some v =>
      simp only [hi, hz, Option.bind_some] at h
      split at h
      · cases h; exact ⟨by simp [zeroValue, run_typeInfo' hi, hz], ‹_›⟩
      · cases h

theorem ptr_inv {ρ : Ren} {b o : Nat} {p : Value} (h : V ρ (.pointer (some ⟨b, o, none⟩)) p) : ∃ β s N, ρ b = some (β, s, N) ∧ p = .pointer (some ⟨β, s + o, none⟩) := by
  cases h with
  | val h => cases h with
    | cell h => cases h with
      | base h => cases h with
        | plain h => simp [plain1] at h
        | ptr h => exact ⟨_, _, _, h, rfl⟩
theorem sl_inv {ρ : Ren} {b o n c : Nat} {p : Value} (h : V ρ (.slice (some ⟨b, o, none⟩) n c) p) : ∃ k f β s N c' a, c = 2 * k + f ∧ ρ b = some (β, s, N) ∧ n ≤ c' ∧ (f = 0 ∨ (f = 1 ∧ c' = n)) ∧ s + o + c' * k ≤ N ∧ (c' = 0 ∨ a = (⟨β, s + o, none⟩ : Addr)) ∧
    p = .slice (some a) n c' := by
  cases h with
  | val h => cases h with
    | cell h => cases h with
      | base h => cases h with
        | plain h => simp [plain1] at h
        | slice h hn hf hc ha => exact ⟨_, _, _, _, _, _, _, rfl, h, hn, hf, hc, ha, rfl⟩
theorem code_k {c k f : Nat} (h : c = 2 * k + f) (hf : f = 0 ∨ (f = 1 ∧ True)) : c / 2 = k ∧ c % 2 = f := by omega
theorem int_inv {ρ : Ren} {k : IntKind} {n : Int} {p : Value} (h : V ρ (.int k n) p) : p = .int k n := (plain_V rfl h).symm
theorem bool_inv {ρ : Ren} {b : Bool} {p : Value} (h : V ρ (.bool b) p) : p = .bool b := (plain_V rfl h).symm
theorem nils_inv {ρ : Ren} {p : Value} (h : V ρ (.slice none 0 0) p) : p = .slice none 0 0 := (plain_V rfl h).symm

theorem row_some {s : S} {b : Nat} {c : List Value} (h : row s b = some c) : ∃ lo op, s.σ[b]? = some (.arr c lo op) := by
  unfold row at h
  split at h
  · cases h; exact ⟨_, _, ‹_›⟩
  · cases h

theorem cell_of {ρ : Ren} {σ : List AObj} (hI : Inv ρ σ w) {b lo β s N i : Nat} {op : Bool} {r : List Value} {x : Value} (hb : σ[b]? = some (.arr r lo op)) (hρ : ρ b = some (β, s, N)) (hx : r[i]? = some x) :
    ∃ y, w.cell? ⟨β, s + i, none⟩ = some y ∧ V1 ρ x y := by
  obtain ⟨c, e, fz, k1, k2, k3, k4, k5, k6⟩ := hI.arr _ _ _ _ _ _ _ hb hρ
  obtain ⟨y, hy, hv⟩ := k5 i x hx
  exact ⟨y, by simp [World.cell?, k1, hy], hv⟩

theorem addr_add (β o n : Nat) : (⟨β, o, none⟩ : Addr).add n = ⟨β, o + n, none⟩ := by unfold Addr.add; split <;> simp_all

/-- The cells of a part of an object, as the model reads them. -/
theorem cells_of {ρ : Ren} {σ : List AObj} (hI : Inv ρ σ w) {b lo β s N o n : Nat} {op : Bool} {r : List Value} (hb : σ[b]? = some (.arr r lo op)) (hρ : ρ b = some (β, s, N)) (hl : o + n ≤ r.length) :
    ∃ cs : List Value, (loadCells ⟨β, s + o, none⟩ n).run P w = .ok cs.toArray w ∧ AllL (V1 ρ) ((r.drop o).take n) cs := by
  obtain ⟨c, e, fz, k1, k2, k3, k4, k5, k6⟩ := hI.arr _ _ _ _ _ _ _ hb hρ
  have hlen : ((c.toList.drop (s + o)).take n).length = n := by simp; omega
  refine ⟨(c.toList.drop (s + o)).take n, ?_, ⟨by rw [hlen]; simp; omega, fun i x y hx hy => ?_⟩⟩
  · have := run_loadCells_list (P := P) w ⟨β, s + o, none⟩ ((c.toList.drop (s + o)).take n) (fun j v hj => by
      rw [addr_add]
      rw [List.getElem?_take] at hj
      split at hj
      · rw [List.getElem?_drop] at hj
        simp [World.cell?, k1]
        simpa using hj
      · cases hj)
    rw [hlen] at this
    exact this
  · rw [List.getElem?_take] at hx hy
    split at hx
    · rename_i hi
      rw [if_pos hi, List.getElem?_drop] at hy
      rw [List.getElem?_drop] at hx
      obtain ⟨z, hz, hv⟩ := k5 _ x hx
      simp at hy
      rw [Nat.add_assoc] at hy
      rw [hz] at hy
      cases hy
      exact hv
    · cases hx

/-- A load. -/
theorem load_sim {ρ : Ren} {s : S} (hI : Inv ρ s.σ w) {t : TypeId} {p p' v : Value} (h : pLoad P t s p = some v) (hp : V ρ p p') : ∃ v', (Instr.loadAt t p').run P w = .ok v' w ∧ V ρ v v' := by
  unfold pLoad at h
  cases ha : aggT P t with
  | none => simp [ha] at h
  | some ag =>
    simp only [ha, Option.bind_some] at h
    cases ag with
    | false =>
      simp only [Bool.false_eq_true, if_false] at h
      unfold ld1 at h
      split at h
      · rename_i b o
        obtain ⟨β, so, N, hρ, rfl⟩ := ptr_inv hp
        cases hr : row s b with
        | none => simp [hr] at h
        | some c =>
          simp only [hr, Option.bind_some] at h
          obtain ⟨lo, op, hb⟩ := row_some hr
          obtain ⟨y, hy, hv⟩ := cell_of hI hb hρ h
          exact ⟨y, by simp [Instr.loadAt, Instr.sureAddr, loadVar, run_isAgg ha, hy], .val (.cell hv)⟩
      · cases h
    | true =>
      simp only [if_true] at h
      cases hz : sizeT P t with
      | none => simp [hz] at h
      | some n =>
        simp only [hz, Option.bind_some] at h
        unfold ldn at h
        split at h
        · rename_i b o
          obtain ⟨β, so, N, hρ, rfl⟩ := ptr_inv hp
          cases hr : row s b with
          | none => simp [hr] at h
          | some c =>
            simp only [hr, Option.bind_some] at h
            split at h
            · rename_i hl
              cases h
              obtain ⟨lo, op, hb⟩ := row_some hr
              obtain ⟨cs, hcs, hv⟩ := cells_of (P := P) hI hb hρ hl
              exact ⟨.agg cs.toArray, by simp [Instr.loadAt, Instr.sureAddr, loadVar, run_isAgg ha, run_sizeOf hz, hcs], .val (.agg (by simpa using hv))⟩
            · cases h
        · cases h

/-! ### Stores -/

theorem setCells_length : ∀ (vs c : List Value) (o : Nat), (setCells c o vs).length = c.length
  | [], c, o => rfl
  | v :: vs, c, o => by simp [setCells, setCells_length vs]
theorem setCells_get : ∀ (vs c : List Value) (o i : Nat), (setCells c o vs)[i]? = if o ≤ i ∧ i < o + vs.length ∧ i < c.length then vs[i - o]? else c[i]?
  | [], c, o, i => by simp [setCells]; intro h1 h2; omega
  | v :: vs, c, o, i => by
    simp only [setCells]
    rw [setCells_get vs (c.set o v) (o + 1) i]
    simp only [List.length_set, List.length_cons]
    by_cases h1 : o + 1 ≤ i ∧ i < o + 1 + vs.length ∧ i < c.length
    · rw [if_pos h1, if_pos (by omega)]
      rw [show i - o = (i - (o + 1)) + 1 by omega]
      simp
    · rw [if_neg h1, List.getElem?_set]
      by_cases h2 : o = i
      · subst h2
        by_cases h3 : o < c.length
        · simp [h3]
        · rw [if_pos rfl, if_neg h3, if_neg (by omega), List.getElem?_eq_none (by omega)]
      · rw [if_neg h2, if_neg (by omega)]

/-- The model's own stores, cell by cell, on the block. -/
theorem heap_setCells (β : Nat) : ∀ (vs : List Value) (o : Nat) (w : World) (c : Array Value) (e : TypeId) (fz : Nat × Nat), w.heap[β]? = some (.cells c e fz) →
    ∃ c', (w.setCells β o vs).heap = w.heap.setIfInBounds β (.cells c' e fz) ∧ c'.size = c.size ∧ c'.toList = setCells c.toList o vs
  | [], o, w, c, e, fz, h => ⟨c, by
      apply Array.ext_getElem?
      intro i
      rw [Array.getElem?_setIfInBounds]
      have := lt_of_get h
      by_cases hi : β = i
      · subst hi; rw [if_pos rfl, if_pos this]; exact h
      · rw [if_neg hi]; rfl, rfl, rfl⟩
  | v :: vs, o, w, c, e, fz, h => by
    have h1 : (w.setCell ⟨β, o, none⟩ v).heap[β]? = some (.cells (c.setIfInBounds o v) e fz) := by
      simp only [World.setCell, Array.getElem?_modify]
      simp [h]
    have h2 : (w.setCell ⟨β, o, none⟩ v).heap = w.heap.setIfInBounds β (.cells (c.setIfInBounds o v) e fz) := by
      apply Array.ext_getElem?
      intro i
      rw [Array.getElem?_setIfInBounds]
      have := lt_of_get h
      by_cases hi : β = i
      · subst hi; rw [if_pos rfl, if_pos this]; exact h1
      · rw [if_neg hi]
        simp only [World.setCell, Array.getElem?_modify]
        rw [if_neg hi]
    obtain ⟨c', k1, k2, k3⟩ := heap_setCells β vs (o + 1) (w.setCell ⟨β, o, none⟩ v) _ e fz h1
    refine ⟨c', ?_, by simpa using k2, ?_⟩
    · simp only [World.setCells]
      rw [k1, h2]
      apply Array.ext_getElem?
      intro i
      simp only [Array.getElem?_setIfInBounds, Array.size_setIfInBounds]
      split <;> rfl
    · rw [k3]; simp [setCells]
theorem setCells_os (β : Nat) : ∀ (vs : List Value) (o : Nat) (w : World), (w.setCells β o vs).os = w.os ∧ (w.setCells β o vs).tape = w.tape ∧ (w.setCells β o vs).output = w.output
  | [], _, _ => ⟨rfl, rfl, rfl⟩
  | v :: vs, o, w => by
    simp only [World.setCells]
    have := setCells_os β vs (o + 1) (w.setCell ⟨β, o, none⟩ v)
    exact this

theorem stn_sim {ρ : Ren} {s s' : S} (hI : Inv ρ s.σ w) {h : Nat} {vs vs' : List Value} {p p' : Value} (hs : stn h s vs p = some s') (hp : V ρ p p') (hv : AllL (V1 ρ) vs vs') :
    ∃ a w', p' = .pointer (some a) ∧ (storeCells a vs').run P w = .ok () w' ∧ Step ρ s.σ w ρ s'.σ w' := by
  unfold stn at hs
  split at hs
  · rename_i b o
    split at hs
    · rename_i c lo hb
      split at hs
      · rename_i hcond
        cases hs
        obtain ⟨h1, h2, h3⟩ := hcond
        obtain ⟨β, so, N, hρ, rfl⟩ := ptr_inv hp
        obtain ⟨cc, e, fz, k1, k2, k3, k4, k5, k6⟩ := hI.arr _ _ _ _ _ _ _ hb hρ
        have hlen := hv.1
        have hrun := run_storeCells_cells (P := P) β (so + o) vs' 0 w
          (fun j hj => by
            have : so + o + j < cc.size := by omega
            simp [World.cell?, k1, this])
          (fun j hj => by
            have := k6 rfl (so + o + j) (by omega) (by omega)
            simp [World.frozen?, k1]
            omega)
          (fun v hv' => by
            obtain ⟨i, hi⟩ := List.getElem?_of_mem hv'
            have hil := get_lt hi
            obtain ⟨x, hx⟩ : ∃ x, vs[i]? = some x := ⟨_, List.getElem?_eq_getElem (by omega)⟩
            exact isCell_V1 (hv.2 i x v hx hi))
        obtain ⟨c', m1, m2, m3⟩ := heap_setCells β vs' (so + o) w cc e fz k1
        have hos := setCells_os β vs' (so + o) w
        refine ⟨_, _, rfl, by simpa using hrun, ?_⟩
        refine inv_write hI hb hρ k1 (setCells_length _ _ _) m2 (fun i x hx => ?_) (fun i hi => ?_) m1 hos.1 hos.2.1 hos.2.2
        · rw [setCells_get] at hx
          have hc' : c'[so + i]? = (setCells cc.toList (so + o) vs')[so + i]? := by rw [← m3]; simp
          rw [hc', setCells_get]
          by_cases hin : o ≤ i ∧ i < o + vs.length ∧ i < c.length
          · rw [if_pos hin] at hx
            rw [if_pos (by simp; omega), show so + i - (so + o) = i - o by omega]
            exact hv.get hx
          · rw [if_neg hin] at hx
            have := get_lt hx
            rw [if_neg (by simp; omega)]
            simpa using k5 i x hx
        · have hc' : c'[i]? = (setCells cc.toList (so + o) vs')[i]? := by rw [← m3]; simp
          rw [hc', setCells_get, if_neg (by omega)]
          simp
      · cases hs
    · cases hs
  · cases hs

theorem store_sim {ρ : Ren} {s s' : S} (hI : Inv ρ s.σ w) {h : Nat} {t : TypeId} {p p' v v' : Value} (hs : pStore P h t s p v = some s') (hp : V ρ p p') (hv : V ρ v v') :
    ∃ w', (Instr.storeAt t p' v').run P w = .ok () w' ∧ Step ρ s.σ w ρ s'.σ w' := by
  unfold pStore at hs
  cases hz : sizeT P t with
  | none => simp [hz] at hs
  | some n =>
    simp only [hz, Option.bind_some, stv] at hs
    split at hs
    · rename_i hn
      have hcell : v.cells.toList.all isCell = true := by
        unfold stn at hs
        split at hs
        · split at hs
          · split at hs
            · exact (‹_ ∧ _ ∧ _›).2.2
            · cases hs
          · cases hs
        · cases hs
      have hv2 := V2_cells (V2_of_isCell hv hcell)
      obtain ⟨a, w', rfl, h1, h2⟩ := stn_sim (P := P) hI hs hp hv2
      refine ⟨w', ?_, h2⟩
      have hsz : v'.cells.size = n := by have := hv2.1; simp at this; omega
      simp [Instr.storeAt, Instr.sureAddr, storeVar, run_sizeOf hz, hsz, h1]
    · cases hs

/-- A new row. -/
theorem boxc_sim {ρ : Ren} {s s' : S} (hI : Inv ρ s.σ w) {cells : List Value} {p : Value} (hs : boxc s cells = some (p, s')) (t : TypeId) {cells' : Array Value} (hv : AllL (V1 ρ) cells cells'.toList) :
    ∃ ρ', Step ρ s.σ w ρ' s'.σ (w.alloc (.cells cells' t)) ∧ V ρ' p (.pointer (some ⟨w.heap.size, 0, none⟩)) := by
  unfold boxc at hs
  split at hs
  · cases hs
    have hl := hv.1
    refine ⟨_, inv_new hI t 0 true (Nat.zero_le _) (by simp at hl; omega) (fun i x hx => ?_), .val (.cell (.base ?_))⟩
    · obtain ⟨y, hy, hxy⟩ := hv.get hx
      exact ⟨y, by simpa using hy, hxy⟩
    · exact .ptr (s := 0) (o := 0) (Ren.snoc_self _ _ _)
  · cases hs

/-! ### Addresses -/

theorem padd_sim {ρ : Ren} {n : Nat} {p p' v : Value} (h : padd n p = some v) (hp : V ρ p p') : ∃ a, p' = .pointer (some a) ∧ V ρ v (.pointer (some (a.add n))) := by
  unfold padd at h
  split at h
  · cases h
    obtain ⟨β, s, N, hρ, rfl⟩ := ptr_inv hp
    refine ⟨_, rfl, ?_⟩
    rw [addr_add, Nat.add_assoc]
    exact .val (.cell (.base (.ptr hρ)))
  · cases h

theorem fieldAddr_sim {ρ : Ren} {t : TypeId} {f : Nat} {p p' v : Value} (h : pFieldAddr P t f p = some v) (hp : V ρ p p') : ∃ v', (Instr.fieldAt t p' f).run P w = .ok v' w ∧ V ρ v v' := by
  unfold pFieldAddr at h
  split at h
  · rename_i fs hu
    split at h
    · rename_i fd hf
      split at h
      · cases h
      · rename_i hz
        obtain ⟨a, rfl, hv⟩ := padd_sim h hp
        cases hz' : sizeT P fd.type with
        | none => exact absurd (.inr hz') hz
        | some n =>
          have hn : n ≠ 0 := fun h0 => hz (.inl (by rw [hz', h0]))
          exact ⟨_, by simp [Instr.fieldAt, run_underlying hu, hf, Instr.sureAddr, fieldPlace, run_sizeOf hz', hn], hv⟩
    · cases h
  · cases h

theorem indexAddr_sim {ρ : Ren} {t : TypeId} {x x' i i' v : Value} (h : pIndexAddr P t x i = some v) (hx : V ρ x x') (hi : V ρ i i') : ∃ v', (Instr.indexAt t x' i').run P w = .ok v' w ∧ V ρ v v' := by
  unfold pIndexAddr at h
  split at h
  · rename_i len e hu
    cases hz : sizeT P e with
    | none => simp [hz] at h
    | some n =>
      simp only [hz, Option.bind_some] at h
      unfold idxArr at h
      split at h
      · rename_i k j
        split at h
        · rename_i hj
          obtain ⟨a, rfl, hv⟩ := padd_sim h hx
          obtain rfl := int_inv hi
          exact ⟨_, by simp [Instr.indexAt, asIntOf, run_underlying hu, Instr.sureAddr, hj, run_sizeOf hz], hv⟩
        · cases h
      · cases h
  · rename_i e hu
    cases hz : sizeT P e with
    | none => simp [hz] at h
    | some n =>
      simp only [hz, Option.bind_some] at h
      unfold idxSl at h
      split at h
      · rename_i k j
        split at h
        · rename_i b o m c
          split at h
          · rename_i hj
            cases h
            obtain rfl := int_inv hi
            obtain ⟨k', f, β, s, N, c', a, hc, hρ, h1, h2, h3, h4, rfl⟩ := sl_inv hx
            have hc0 : c' ≠ 0 := by omega
            obtain rfl := h4.resolve_left hc0
            refine ⟨_, by simp [Instr.indexAt, asIntOf, run_underlying hu, hj, run_sizeOf hz]; rfl, ?_⟩
            rw [addr_add, Nat.add_assoc]
            exact .val (.cell (.base (.ptr hρ)))
          · cases h
        · cases h
      · cases h
  · cases h

end
end Go.Ab
