/-
  Parts, literals, makes, appends, copies: the model's operations go with the abstract machine's.
-/
import Derived.Test.YtkpamaplmjlagaaOps2
namespace Go.Ab
open Go

section
variable {P : Program} {w : World}

theorem agg_inv {ρ : Ren} {cs : Array Value} {p : Value} (h : V ρ (.agg cs) p) : ∃ cs', p = .agg cs' ∧ AllL (V1 ρ) cs.toList cs'.toList := by
  cases h with
  | val h => cases h with
    | cell h => cases h with
      | base h => cases h with
        | plain h => simp [plain1] at h
    | agg h => exact ⟨_, rfl, h⟩

theorem part_sim {ρ : Ren} {t : TypeId} {cs cs' : Array Value} {off : Nat} {v : Value} (h : part P t cs off = some v) (hv : AllL (V1 ρ) cs.toList cs'.toList) : ∃ v', (Go.part t cs' off).run P w = .ok v' w ∧ V ρ v v' := by
  unfold part at h
  cases ha : aggT P t with
  | none => simp [ha] at h
  | some ag =>
    simp only [ha, Option.bind_some] at h
    cases ag with
    | false =>
      simp only [Bool.false_eq_true, if_false] at h
      obtain ⟨y, hy, hxy⟩ := hv.get (show cs.toList[off]? = some v by simpa using h)
      have hy' : cs'[off]? = some y := by simpa using hy
      exact ⟨y, by simp [Go.part, run_isAgg ha, hy'], .val (.cell hxy)⟩
    | true =>
      simp only [if_true] at h
      cases hz : sizeT P t with
      | none => simp [hz] at h
      | some n =>
        simp only [hz, Option.bind_some] at h
        cases h
        refine ⟨_, by simp [Go.part, run_isAgg ha, run_sizeOf hz]; rfl, .val (.agg ?_)⟩
        have e : ∀ c : Array Value, (c.extract off (off + n)).toList = (c.toList.drop off).take n := by intro c; simp [Array.toList_extract, List.extract]
        rw [e, e]
        exact (hv.drop off).take n

theorem fldV_sim {ρ : Ren} {t : TypeId} {ag : Bool} {n off : Nat} {x x' v : Value} (ha : aggT P t = some ag) (hn : sizeT P t = some n) (h : fldV ag n off x = some v) (hx : V ρ x x') : ∃ cs' v', x' = .agg cs' ∧ (Go.part t cs' off).run P w = .ok v' w ∧ V ρ v v' := by
  unfold fldV at h
  split at h
  · rename_i cs
    obtain ⟨cs', rfl, hv⟩ := agg_inv hx
    have hp : part P t cs off = some v := by
      unfold part
      rw [ha]
      simp only [Option.bind_some, hn]
      exact h
    obtain ⟨v', h1, h2⟩ := part_sim (w := w) hp hv
    exact ⟨cs', v', rfl, h1, h2⟩
  · cases h

theorem field_sim {ρ : Ren} {t : TypeId} {f : Nat} {x x' v : Value} (h : pField P t f x = some v) (hx : V ρ x x') : ∃ v', (Instr.field t x' f).run P w = .ok v' w ∧ V ρ v v' := by
  unfold pField at h
  split at h
  · rename_i fs hu
    simp only [Option.bind_eq_some_iff] at h
    obtain ⟨fd, hf, ag, ha, n, hn, h⟩ := h
    obtain ⟨cs', v', rfl, h1, h2⟩ := fldV_sim (w := w) ha hn h hx
    exact ⟨v', by simp [Instr.field, run_underlying hu, hf, asAgg, h1], h2⟩
  · cases h

theorem index_sim {ρ : Ren} {t : TypeId} {x x' i i' v : Value} (h : pIndex P t x i = some v) (hx : V ρ x x') (hi : V ρ i i') : ∃ v', (Instr.index t x' i').run P w = .ok v' w ∧ V ρ v v' := by
  unfold pIndex at h
  split at h
  · rename_i len e hu
    simp only [Option.bind_eq_some_iff] at h
    obtain ⟨ag, ha, n, hn, h⟩ := h
    unfold idxV at h
    split at h
    · rename_i k j
      obtain rfl := int_inv hi
      split at h
      · rename_i hj
        obtain ⟨cs', v', rfl, h1, h2⟩ := fldV_sim (w := w) ha hn h hx
        exact ⟨v', by simp [Instr.index, asIntOf, run_underlying hu, hj, run_sizeOf hn, h1], h2⟩
      · cases h
    · cases h
  · split at h
    · rename_i hp
      simp only [Bool.and_eq_true] at hp
      obtain rfl := plain_V hp.1 hx
      obtain rfl := plain_V hp.2 hi
      obtain ⟨h1, h2⟩ := quietP_run (w := w) h
      exact ⟨v, h1, V_of_plain h2⟩
    · cases h

/-- The parts of a literal alike: their places the same. -/
def AllP (R : Value → Value → Prop) (a b : List (Nat × Value)) : Prop := a.map (·.1) = b.map (·.1) ∧ AllL R (a.map (·.2)) (b.map (·.2))
theorem AllP.cons_inv {R : Value → Value → Prop} {i : Nat} {x : Value} {a b : List (Nat × Value)} (h : AllP R ((i, x) :: a) b) : ∃ y b', b = (i, y) :: b' ∧ R x y ∧ AllP R a b' := by
  cases b with
  | nil => have := h.1; simp at this
  | cons p b =>
    obtain ⟨j, y⟩ := p
    have h1 := h.1
    simp at h1
    obtain ⟨rfl, h1⟩ := h1
    have h2 := h.2
    simp only [List.map_cons] at h2
    obtain ⟨h3, h4⟩ := h2.cons_inv
    exact ⟨y, b, rfl, h3, h1, h4⟩

theorem foldl_set_list (off : Nat) : ∀ (l : List (Value × Nat)) (cs : Array Value), (l.foldl (fun (cs : Array Value) (x : Value × Nat) => cs.setIfInBounds (off + x.2) x.1) cs).toList = l.foldl (fun (cs : List Value) (x : Value × Nat) => cs.set (off + x.2) x.1) cs.toList
  | [], _ => rfl
  | x :: l, cs => by simp only [List.foldl_cons]; rw [foldl_set_list off l]; simp

theorem foldl_all {ρ : Ren} (off : Nat) : ∀ (l l' : List Value) (k : Nat) (a b : List Value), AllL (V1 ρ) l l' → AllL (V1 ρ) a b →
    AllL (V1 ρ) ((l.zipIdx k).foldl (fun (cs : List Value) (x : Value × Nat) => cs.set (off + x.2) x.1) a) ((l'.zipIdx k).foldl (fun (cs : List Value) (x : Value × Nat) => cs.set (off + x.2) x.1) b)
  | [], l', k, a, b, hl, h => by
    have : l' = [] := by cases l' with
      | nil => rfl
      | cons => have := hl.1; simp at this
    subst this; exact h
  | x :: l, l', k, a, b, hl, h => by
    obtain ⟨y, l1, rfl⟩ := hl.left
    obtain ⟨h1, h2⟩ := hl.cons_inv
    simp only [List.zipIdx_cons, List.foldl_cons]
    exact foldl_all off l l1 (k + 1) _ _ h2 (h.set _ h1)

theorem fill_sim {ρ : Ren} {place : Nat → Option (Nat × Nat)} : ∀ {parts parts' : List (Nat × Value)} {cells cells' r : Array Value}, Instr.fill place cells parts = some r → AllP (V2 ρ) parts parts' → AllL (V1 ρ) cells.toList cells'.toList →
    ∃ r', Instr.fill place cells' parts' = some r' ∧ AllL (V1 ρ) r.toList r'.toList
  | [], parts', cells, cells', r, h, hp, hc => by
    have : parts' = [] := by
      have := hp.1; simp at this; exact this.symm ▸ rfl
    subst this
    simp only [Instr.fill] at h
    cases h
    exact ⟨_, rfl, hc⟩
  | (i, v) :: rest, parts', cells, cells', r, h, hp, hc => by
    obtain ⟨y, rest', rfl, hv, hrest⟩ := hp.cons_inv
    have hcv := V2_cells hv
    have hsz : y.cells.size = v.cells.size := by have := hcv.1; simpa using this.symm
    have hsz2 : cells'.size = cells.size := by have := hc.1; simpa using this.symm
    simp only [Instr.fill] at h ⊢
    cases hpl : place i with
    | none => simp [hpl] at h
    | some os =>
      obtain ⟨off, size⟩ := os
      simp only [hpl] at h ⊢
      rw [hsz, hsz2]
      split at h
      · cases h
      · rename_i hcond
        rw [if_neg hcond]
        refine fill_sim h hrest ?_
        rw [← Array.foldl_toList, ← Array.foldl_toList, foldl_set_list, foldl_set_list]
        simp only [Array.toList_zipIdx]
        exact foldl_all off _ _ 0 _ _ hcv hc

theorem zero_cells {ρ : Ren} {z : Value} (h : plain z = true) : AllL (V1 ρ) z.cells.toList z.cells.toList := V2_cells (V2_of_plain h)

theorem parts_V2 {ρ : Ren} {parts parts' : List (Nat × Value)} (h : AllP (V ρ) parts parts') (hc : parts.all (fun p => p.2.cells.all isCell) = true) : AllP (V2 ρ) parts parts' := by
  refine ⟨h.1, h.2.1, fun i x y hx hy => ?_⟩
  refine V2_of_isCell (h.2.2 i x y hx hy) ?_
  simp only [List.getElem?_map, Option.map_eq_some_iff] at hx
  obtain ⟨p, hp, rfl⟩ := hx
  have := List.all_eq_true.1 hc p (List.mem_of_getElem? hp)
  simpa using this

theorem build_sim {ρ : Ren} {t : TypeId} {parts : List (Nat × Value)} {parts' : Array (Nat × Value)} {v : Value} (h : pBuild P t parts = some v) (hp : AllP (V ρ) parts parts'.toList) : ∃ v', (Instr.build t parts').run P w = .ok v' w ∧ V ρ v v' := by
  unfold pBuild at h
  cases hz : zeroT P t with
  | none => simp [hz] at h
  | some z =>
    obtain ⟨hz1, hz2⟩ := run_zeroValue (w := w) hz
    simp only [hz, Option.bind_some] at h
    split at h
    · rename_i fs hu
      cases hm : fs.mapM (fun f => (sizeT P f.type).map (f.offset, ·)) with
      | none => simp [hm] at h
      | some places =>
        simp only [hm, Option.bind_some, bldV] at h
        split at h
        · rename_i hc
          have hp2 := parts_V2 hp hc
          simp only [Option.map_eq_some_iff] at h
          obtain ⟨r, hr, rfl⟩ := h
          obtain ⟨r', hr', hv⟩ := fill_sim hr hp2 (zero_cells hz2)
          have hplaces : (fs.mapM fun f => do pure (f.offset, ← sizeOf f.type) : Sem (Array (Nat × Nat))).run P w = .ok places w := by
            rw [Array.mapM_eq_mapM_toList] at hm ⊢
            simp only [Option.map_eq_map, Option.map_eq_some_iff] at hm
            obtain ⟨l, hl, rfl⟩ := hm
            have key : ∀ (l : List Field) (r : List (Nat × Nat)), l.mapM (fun f => (sizeT P f.type).map (f.offset, ·)) = some r → (l.mapM (fun f => do pure (f.offset, ← sizeOf f.type)) : Sem (List (Nat × Nat))).run P w = .ok r w := by
              intro l
              induction l with
              | nil => intro r h; simp at h; subst h; simp
              | cons f l ih =>
                intro r h
                simp only [List.mapM_cons, Option.bind_eq_bind, Option.bind_eq_some_iff, Option.map_eq_some_iff, Option.pure_def, Option.some.injEq] at h
                obtain ⟨x, ⟨n, hn, rfl⟩, l', hl', rfl⟩ := h
                simp only [List.mapM_cons, Sem.run_bind, run_sizeOf hn, Result.andThen_ok, Sem.run_pure, ih _ hl']
            have := key _ _ hl
            simp only [Sem.run_map, this, Result.andThen_ok]
          refine ⟨.agg r', ?_, .val (.agg hv)⟩
          unfold Instr.build
          simp only [Sem.run_bind, hz1, Result.andThen_ok, run_underlying hu, hplaces]
          simp [hr']
        · cases h
    · rename_i len e hu
      cases hs : sizeT P e with
      | none => simp [hs] at h
      | some n =>
        simp only [hs, Option.bind_some, bldV] at h
        split at h
        · rename_i hc
          have hp2 := parts_V2 hp hc
          simp only [Option.map_eq_some_iff] at h
          obtain ⟨r, hr, rfl⟩ := h
          obtain ⟨r', hr', hv⟩ := fill_sim hr hp2 (zero_cells hz2)
          refine ⟨.agg r', ?_, .val (.agg hv)⟩
          unfold Instr.build
          simp only [Sem.run_bind, hz1, Result.andThen_ok, run_underlying hu, run_sizeOf hs]
          simp [hr']
        · cases h
    · cases h

end
end Go.Ab
