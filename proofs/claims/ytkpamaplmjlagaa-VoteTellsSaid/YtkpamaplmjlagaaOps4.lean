/-
  Literals of slices, makes, appends, copies, len: the model's operations go with the abstract machine's.
-/
import Derived.Test.YtkpamaplmjlagaaOps3
namespace Go.Ab
open Go

section
variable {P : Program} {w : World}

theorem run_newRow (e : TypeId) (c : Array Value) : (newRow e c).run P w = .ok ⟨w.heap.size, 0, none⟩ (w.alloc (.cells c e)) := by
  simp [newRow]

theorem elemT_some {t e : TypeId} (h : elemT P t = some e) : P.underlying t = some (.slice e) := by
  unfold elemT at h
  split at h
  · cases h; assumption
  · cases h

theorem mkCells_get {z : Array Value} {n : Nat} : (mkCells z n).toArray = (Array.range (n * z.size)).map (fun i => z.getD (i % z.size) undef) := by
  unfold mkCells
  split
  · rename_i h
    apply Array.ext'
    simp only [h, Array.toList_map, Array.toList_range, Nat.mul_one, Nat.mod_one]
    apply List.ext_getElem?
    intro i
    simp only [List.getElem?_replicate, List.getElem?_map]
    split
    · rename_i hi
      simp [List.getElem?_range hi]
    · rename_i hi
      rw [List.getElem?_eq_none (by simp; omega)]; rfl
  · apply Array.ext'; simp

theorem mkCells_model {z : Array Value} {n k : Nat} (hk : z.size = k) (h0 : k ≠ 0) : (Array.range (n * k)).map (fun i => z[i % z.size]!) = (mkCells z n).toArray := by
  subst hk
  rw [mkCells_get]
  apply Array.ext_getElem?
  intro i
  simp only [Array.getElem?_map]
  cases h : (Array.range (n * z.size))[i]? with
  | none => rfl
  | some j =>
    simp only [Option.map_some]
    congr 1
    have hj : j % z.size < z.size := Nat.mod_lt _ (by omega)
    simp [hj]

theorem mkCells_len {z : Array Value} {n : Nat} : (mkCells z n).length = n * z.size := by
  unfold mkCells
  split
  · rename_i h; simp [h]
  · simp

theorem mkCells_V {ρ : Ren} {z : Value} (hz : plain z = true) (n : Nat) : AllL (V1 ρ) (mkCells z.cells n) (mkCells z.cells n) := by
  refine AllL.refl_of fun x hx => ?_
  have hsz : ∀ i v, z.cells[i]? = some v → V1 ρ v v := fun i v hv => (zero_cells (ρ := ρ) hz).2 i v v (by simpa using hv) (by simpa using hv)
  unfold mkCells at hx
  split at hx
  · rename_i h1
    obtain ⟨_, rfl⟩ := List.mem_replicate.1 hx
    have : z.cells[0]? = some (z.cells[0]'(by omega)) := Array.getElem?_eq_getElem _
    have e : z.cells.getD 0 undef = z.cells[0]'(by omega) := by simp [Array.getD, h1]
    rw [e]
    exact hsz 0 _ this
  · obtain ⟨i, hi, rfl⟩ := List.mem_map.1 hx
    simp at hi
    have h0 : 0 < z.cells.size := by
      rcases Nat.eq_zero_or_pos z.cells.size with h | h
      · rw [h] at hi; omega
      · exact h
    have hlt := Nat.mod_lt i h0
    have : z.cells[i % z.cells.size]? = some (z.cells[i % z.cells.size]'hlt) := Array.getElem?_eq_getElem _
    have e : z.cells.getD (i % z.cells.size) undef = z.cells[i % z.cells.size]'hlt := by simp [Array.getD, hlt]
    rw [e]
    exact hsz _ _ this

theorem fill_size {place : Nat → Option (Nat × Nat)} : ∀ {parts : List (Nat × Value)} {cells r : Array Value}, Instr.fill place cells parts = some r → r.size = cells.size
  | [], _, _, h => by simp only [Instr.fill] at h; cases h; rfl
  | (i, v) :: rest, cells, r, h => by
    simp only [Instr.fill] at h
    split at h
    · cases h
    · split at h
      · cases h
      · rw [fill_size h, ← Array.foldl_toList, ← Array.length_toList, foldl_set_list]
        have : ∀ (l : List (Value × Nat)) (off : Nat) (c : List Value), (l.foldl (fun (cs : List Value) (x : Value × Nat) => cs.set (off + x.2) x.1) c).length = c.length := by
          intro l off
          induction l with
          | nil => intro c; rfl
          | cons x l ih => intro c; simp only [List.foldl_cons]; rw [ih]; simp
        rw [this]; simp

theorem new_slice {ρ : Ren} {s : S} (hI : Inv ρ s.σ w) {r : List Value} {c : Array Value} (e : TypeId) {lo n k f cap : Nat} {op : Bool} (hlo : lo ≤ r.length) (hr : AllL (V1 ρ) r (c.toList.take r.length)) (hl : r.length ≤ c.size) (hn : n ≤ cap) (hf : f = 0 ∨ (f = 1 ∧ cap = n)) (hc : cap * k ≤ c.size) :
    ∃ ρ', Step ρ s.σ w ρ' (s.σ ++ [.arr r lo op]) (w.alloc (.cells c e)) ∧ V ρ' (sl s.σ.length 0 n k f) (.slice (some ⟨w.heap.size, 0, none⟩) n cap) := by
  refine ⟨_, inv_new hI e lo op hlo hl (fun i x hx => ?_), .val (.cell (.base (.slice (s := 0) (o := 0) (Ren.snoc_self _ _ _) hn hf (by omega) (.inr rfl))))⟩
  obtain ⟨y, hy, hv⟩ := hr.get hx
  rw [List.getElem?_take] at hy
  split at hy
  · exact ⟨y, by simpa using hy, hv⟩
  · cases hy

theorem buildSlice_sim {ρ : Ren} {s s' : S} (hI : Inv ρ s.σ w) {t : TypeId} {len : Nat} {parts : List (Nat × Value)} {parts' : Array (Nat × Value)} {v : Value} (h : pBuildSlice P t len parts s = some (v, s')) (hp : AllP (V ρ) parts parts'.toList) :
    ∃ v' w' ρ', (Instr.buildSlice t len parts').run P w = .ok v' w' ∧ Step ρ s.σ w ρ' s'.σ w' ∧ V ρ' v v' := by
  unfold pBuildSlice at h
  cases he : elemT P t with
  | none => simp [he] at h
  | some e =>
    cases hs : sizeT P e with
    | none => simp [he, hs] at h
    | some n =>
      cases hz : zeroT P e with
      | none => simp [he, hs, hz] at h
      | some z =>
        simp only [he, hs, hz, Option.bind_some, bldSl] at h
        split at h
        · rename_i hc
          obtain ⟨c1, c2, c3, c4⟩ := hc
          have hp2 := parts_V2 hp c4
          obtain ⟨hz1, hz2⟩ := run_zeroValue (w := w) hz
          cases hfill : Instr.fill (fun i => some (i * n, n)) (mkCells z.cells len).toArray parts with
          | none => simp [hfill] at h
          | some cells =>
            simp only [hfill, Option.bind_some, Option.some.injEq, Prod.mk.injEq] at h
            obtain ⟨rfl, rfl⟩ := h
            obtain ⟨r', hr', hv⟩ := fill_sim hfill hp2 (cells' := (mkCells z.cells len).toArray) (by simpa using mkCells_V hz2 len)
            have hsz : cells.size = len * n := by rw [fill_size hfill, List.size_toArray, mkCells_len, c2]
            have hsz' : r'.size = cells.size := by have := hv.1; simpa using this.symm
            obtain ⟨ρ', h1, h2⟩ := new_slice (w := w) hI (r := cells.toList) (c := r') e (lo := 0) (n := len) (k := n) (f := 1) (cap := len) (op := true) (Nat.zero_le _)
              (by rw [List.take_of_length_le (by simp; omega)]; exact hv) (by simp; omega) (Nat.le_refl _) (.inr ⟨rfl, rfl⟩) (by omega)
            refine ⟨_, _, ρ', ?_, h1, h2⟩
            unfold Instr.buildSlice
            simp only [Sem.run_bind, run_underlying (elemT_some he), Result.andThen_ok, run_sizeOf hs]
            rw [if_neg (by omega)]
            by_cases h0 : len * n = 0
            · have hcells : (Array.range (len * n)).map (fun i => (#[] : Array Value)[i % (#[] : Array Value).size]!) = (mkCells z.cells len).toArray := by
                have : mkCells z.cells len = [] := List.eq_nil_of_length_eq_zero (by rw [mkCells_len, c2]; exact h0)
                rw [this, h0]; simp
              simp only [if_pos h0, Sem.run_bind, Sem.run_pure, Result.andThen_ok, hcells, hr', run_newRow]
            · have hcells : (Array.range (len * n)).map (fun i => z.cells[i % z.cells.size]!) = (mkCells z.cells len).toArray := mkCells_model c2 c3
              simp only [if_neg h0, Sem.run_bind, hz1, Sem.run_pure, Result.andThen_ok, hcells, hr', run_newRow]
        · cases h

theorem makeSlice_sim {ρ : Ren} {s s' : S} (hI : Inv ρ s.σ w) {t : TypeId} {l l' c c' v : Value} (h : pMakeSlice P t l c s = some (v, s')) (hl : V ρ l l') (hc : V ρ c c') :
    ∃ v' w' ρ', (Instr.makeSlice t l' c').run P w = .ok v' w' ∧ Step ρ s.σ w ρ' s'.σ w' ∧ V ρ' v v' := by
  unfold pMakeSlice at h
  cases he : elemT P t with
  | none => simp [he] at h
  | some e =>
    cases hs : sizeT P e with
    | none => simp [he, hs] at h
    | some n =>
      cases hb : bytesT P e with
      | none => simp [he, hs, hb] at h
      | some by_ =>
        cases hz : zeroT P e with
        | none => simp [he, hs, hb, hz] at h
        | some z =>
          simp only [he, hs, hb, hz, Option.bind_some, mkSl] at h
          split at h
          · rename_i l c
            obtain rfl := int_inv hl
            obtain rfl := int_inv hc
            split at h
            · rename_i hcnd
              obtain ⟨c1, c2, c3, c4, c5, c6⟩ := hcnd
              cases h
              obtain ⟨hz1, hz2⟩ := run_zeroValue (w := w) hz
              obtain ⟨i, hi⟩ : ∃ i, P.info? e = some i := by
                unfold bytesT at hb
                cases hh : P.info? e with
                | none => simp [hh] at hb
                | some i => exact ⟨i, rfl⟩
              have hib : i.bytes = by_ := by simpa [bytesT, hi] using hb
              have wl : IntKind.i64.wrap l = l := by unfold IntKind.wrap; simp [IntKind.bits, IntKind.signed]; omega
              have wc : IntKind.i64.wrap c = c := by unfold IntKind.wrap; simp [IntKind.bits, IntKind.signed]; omega
              obtain ⟨ρ', h1, h2⟩ := new_slice (w := w) hI (r := mkCells z.cells l.toNat) (c := (mkCells z.cells c.toNat).toArray) e (lo := 0) (n := l.toNat) (k := n) (f := if l = c then 1 else 0) (cap := c.toNat) (op := true) (Nat.zero_le _) (by
                  have := (mkCells_V (ρ := ρ) hz2 c.toNat).take (l.toNat * n)
                  have e1 : (mkCells z.cells c.toNat).take (l.toNat * n) = mkCells z.cells l.toNat := by
                    have hln : l.toNat * n ≤ c.toNat * n := Nat.mul_le_mul_right _ (by omega)
                    unfold mkCells
                    rw [c5]
                    split
                    · rename_i hn1
                      rw [List.take_replicate, hn1]
                      congr 1; omega
                    · rw [← List.map_take, List.take_range]
                      congr 2; omega
                  rw [mkCells_len, c5]
                  simpa [e1] using this) (by simp [mkCells_len, c5]; exact Nat.mul_le_mul_right _ (by omega)) (by omega) (by
                    split
                    · right; exact ⟨rfl, by omega⟩
                    · left; rfl) (by simp [mkCells_len, c5])
              refine ⟨_, _, ρ', ?_, h1, h2⟩
              unfold Instr.makeSlice
              have hnn : ¬((i.bytes : Int) * c > 2 ^ 48) := by rw [hib, Int.mul_comm]; omega
              have hc0 : ¬ c < 0 := by omega
              have hl0 : ¬ l < 0 := by omega
              have hlc : ¬ l > c := by omega
              simp only [Sem.run_bind, run_underlying (elemT_some he), Result.andThen_ok, asInt, asIntOf, Sem.run_pure, run_typeInfo' hi, wl, wc]
              simp only [hc0, hl0, hlc, decide_false, Bool.false_or, hnn, Bool.or_self, Bool.false_eq_true, if_false]
              simp only [Sem.run_bind, run_askRoom, Result.andThen_ok, run_sizeOf hs]
              by_cases h0 : c.toNat * n = 0
              · have hcells : (Array.range (c.toNat * n)).map (fun i => (#[] : Array Value)[i % (#[] : Array Value).size]!) = (mkCells z.cells c.toNat).toArray := by
                  have : mkCells z.cells c.toNat = [] := List.eq_nil_of_length_eq_zero (by rw [mkCells_len, c5]; exact h0)
                  rw [this, h0]; simp
                simp only [if_pos h0, Sem.run_bind, Sem.run_pure, Result.andThen_ok, hcells, run_newRow]
              · have hcells : (Array.range (c.toNat * n)).map (fun i => z.cells[i % z.cells.size]!) = (mkCells z.cells c.toNat).toArray := mkCells_model c5 c6
                simp only [if_neg h0, Sem.run_bind, hz1, Sem.run_pure, Result.andThen_ok, hcells, run_newRow]
            · cases h
          · cases h

theorem len_sim {ρ : Ren} {ts : Array TypeId} {ty : TypeId} {x x' v : Value} (h : pLen P ts x = some v) (hx : V ρ x x') : (Builtin.len_ ts ty #[x']).run P w = .ok v w ∧ plain v = true := by
  unfold pLen at h
  split at h
  · rename_i t ht
    split at h
    · rename_i hu
      unfold lenStr at h
      split at h
      · cases h
        obtain rfl := plain_V (by rfl) hx
        exact ⟨by simp [Builtin.len_, ht, run_underlying hu, goInt], rfl⟩
      · cases h
    · rename_i n e hu
      cases h
      exact ⟨by simp [Builtin.len_, ht, run_underlying hu, goInt], rfl⟩
    · rename_i e hu
      unfold lenSl at h
      split at h
      · cases h
        cases hx with
        | val hx => cases hx with
          | cell hx => cases hx with
            | base hx => cases hx with
              | plain hp => exact ⟨by simp [Builtin.len_, ht, run_underlying hu, goInt], rfl⟩
              | slice => exact ⟨by simp [Builtin.len_, ht, run_underlying hu, goInt], rfl⟩
      · cases h
    · rename_i k e hu
      unfold lenMap0 at h
      split at h
      · cases h
        obtain rfl := plain_V (by rfl) hx
        exact ⟨by simp [Builtin.len_, ht, run_underlying hu, goInt], rfl⟩
      · cases h
    · cases h
  · cases h

end
end Go.Ab
