/-
  What a law is given, out of the world into the machine of values: the types.
-/
import Derived.Test.YtkpamaplmjlagaaVOpen
namespace Go.Vm
open Go Go.Ab
set_option linter.unusedVariables false
variable {P : Program} {H : Type} {enc : TypeId × Value → H} {W : World}

theorem cells_at {a : Addr} {n : Nat} {cs : List Value} (h : W.cells? 0 a n = some cs) (hn : n ≠ 0) : ∃ c e fz, W.heap[a.block]? = some (.cells c e fz) ∧ a.off + n ≤ c.size ∧ a.spot = none ∧ ∀ i, i < n → c[a.off + i]? = cs[i]? := by
  obtain ⟨_, hl, hc⟩ := World.cells?_some h
  have h0 := hc 0 (by omega)
  have hadd0 : a.add 0 = a := by simp [Addr.add]
  rw [hadd0, List.getElem?_eq_getElem (by omega)] at h0
  unfold World.cell? at h0
  split at h0
  · rename_i c e fz hb
    split at h0
    · cases h0
    · rename_i hsp
      have hsp' : a.spot = none := by cases hs : a.spot with
        | none => rfl
        | some _ => rw [hs] at hsp; exact absurd rfl hsp
      have key : ∀ i, i < n → c[a.off + i]? = cs[i]? := by
        intro i hi
        have := hc i hi
        unfold World.cell? at this
        have hblk : (a.add i).block = a.block := by unfold Addr.add; split <;> rfl
        have hspi : (a.add i).spot = none := by unfold Addr.add; split <;> first | exact hsp' | rfl
        have hoff : (a.add i).off = a.off + i := by unfold Addr.add; split <;> simp_all
        rw [hblk, hb] at this
        simp only [hspi, hoff] at this
        simpa using this
      refine ⟨c, e, fz, hb, ?_, hsp', key⟩
      have := key (n - 1) (by omega)
      rw [List.getElem?_eq_getElem (by omega)] at this
      have := lt_of_get this
      omega
  · cases h0

theorem add_facts (a : Addr) (hs : a.spot = none) (i : Nat) : (a.add i).block = a.block ∧ (a.add i).off = a.off + i ∧ (a.add i).spot = none := by
  unfold Addr.add; split <;> simp_all
theorem chunks_flat {a : Addr} {k : Nat} (hk : k ≠ 0) {cc : Array Value} {e0 : TypeId} {fz : Nat × Nat} (hs : a.spot = none) (hb : W.heap[a.block]? = some (.cells cc e0 fz)) : ∀ len, (∀ i, i < len → ∃ c, W.cells? 0 (a.add (i * k)) k = some c) →
    ((List.range len).map fun i => (W.cells? 0 (a.add (i * k)) k).getD []).flatten = (cc.toList.drop a.off).take (len * k)
  | 0, _ => by simp
  | n + 1, h => by
    obtain ⟨c, hc⟩ := h n (by omega)
    obtain ⟨f1, f2, f3⟩ := add_facts a hs (n * k)
    obtain ⟨cc', e', fz', g1, g2, g3, g4⟩ := cells_at hc hk
    rw [f1, hb] at g1
    cases g1
    rw [f2] at g2 g4
    have hl := (World.cells?_some hc).2.1
    have he : c = (cc.toList.drop (a.off + n * k)).take k := by
      apply List.ext_getElem?
      intro i
      rcases Nat.lt_or_ge i k with hi | hi
      · rw [List.getElem?_take_of_lt hi, List.getElem?_drop, ← g4 i hi, Array.getElem?_toList]
      · rw [List.getElem?_eq_none (by omega), List.getElem?_eq_none (by simp; omega)]
    rw [List.range_succ, List.map_append, List.flatten_append, chunks_flat hk hs hb n (fun i hi => h i (by omega)), Nat.add_mul, Nat.one_mul, List.take_add, List.drop_drop, ← he]
    simp [hc]

/-- Is there a block of cells at all? -/
def HasBlk (W : World) : Prop := ∃ (β : Nat) (c : Array Value) (e : TypeId) (fz : Nat × Nat), W.heap[β]? = some (.cells c e fz)
def noSl : Value → Prop
  | .slice (some _) _ _ => False
  | _ => True
theorem openT : ∀ (fuel n : Nat) (t : TypeId) (sh : Sh) (cs : List Value) (x : DataW H × List MemPlace) (ρ : Ren) (σ : List AObj), (HasBlk W ∨ ∀ c ∈ cs, noSl c) →
    shOf P n t = some sh → DataW.trod enc P W 0 (fun _ => true) true fuel t cs = some x → Opened W ρ σ → Told W ρ σ sh cs
  | 0, n, t, sh, cs, x, ρ, σ, hblk, hs, h, ho => by simp [DataW.trod] at h
  | m + 1, 0, t, sh, cs, x, ρ, σ, hblk, hs, h, ho => by simp [shOf] at hs
  | m + 1, n + 1, t, sh, cs, x, ρ, σ, hblk, hs, h, ho => by
    have ih := openT m n
    simp only [shOf] at hs
    split at hs
    · rename_i hu
      cases hs
      unfold DataW.trod at h
      rw [hu] at h
      split at h <;> first | (simp_all; done) | skip
      rename_i b hu' 
      exact told_plain ho rfl (by simp [refl1, eqv]) .bool
    · rename_i k hu
      cases hs
      obtain ⟨z, rfl, _, hw⟩ := DataW.trod_int hu h
      exact told_plain ho rfl (by simp [refl1, eqv]) (.int hw)
    · rename_i hu
      cases hs
      obtain ⟨s, rfl, _, hw⟩ := DataW.trod_string hu h
      exact told_plain ho rfl (by simp [refl1, eqv]) (.str hw)
    · rename_i fs hu
      split at hs
      · rename_i hct
        simp only [Option.map_eq_some_iff] at hs
        obtain ⟨shs, hs1, rfl⟩ := hs
        unfold DataW.trod at h
        rw [hu] at h
        have h' : (if cs.length = P.cellsOf t then (fs.toList.mapM fun f => DataW.trod enc P W 0 (fun _ => true) true m f.type ((cs.drop f.offset).take (P.cellsOf f.type))).map fun xs => (DataW.agg (xs.map (·.1)), xs.flatMap (·.2)) else none) = some x := by
          simpa using h
        split at h'
        · rename_i hl
          simp only [Option.map_eq_some_iff] at h'
          obtain ⟨xs, hx, _⟩ := h'
          have hlen := mapM_some_length hs1
          obtain ⟨ρ', σ', es, ws, o1, l1, k1, k2, k3, k4, _⟩ := openEs (W := W) (fs.toList.map fun f => (cs.drop f.offset).take (P.cellsOf f.type)) shs (by simp [hlen]) (fun i c s hc hsi ρ σ ho => by
            rw [List.getElem?_map, Option.map_eq_some_iff] at hc
            obtain ⟨f, hf, rfl⟩ := hc
            have h1 := mapM_some_get hs1 i f hf
            rw [hsi] at h1
            have h2 := mapM_some_get hx i f hf
            have hi := (List.getElem?_eq_some_iff.1 hf).1
            have hxl := mapM_some_length hx
            rw [List.getElem?_eq_getElem (by omega)] at h2
            exact ih _ _ _ _ ρ σ (hblk.imp_right fun hh c hc => hh c (List.mem_of_mem_drop (List.mem_of_mem_take hc))) h1 h2 ho) ρ σ ho
          rw [(contig_flat fs.toList 0 _ cs hct hl).2] at k3
          exact ⟨ρ', σ', .agg (flat es), ws, o1, l1, .st k1.flat, k2, by simpa using k3, k4⟩
        · cases h'
      · cases hs
    · rename_i k e hu
      split at hs
      · rename_i hct
        simp only [Option.map_eq_some_iff] at hs
        obtain ⟨s, hs1, rfl⟩ := hs
        obtain ⟨m', hl, hp⟩ : ∃ m', cs.length = P.cellsOf t ∧ ∀ i, i < k → ∃ y, DataW.trod enc P W 0 (fun _ => true) true m e ((cs.drop (i * P.cellsOf e)).take (P.cellsOf e)) = some y := by
          unfold DataW.trod at h
          rw [hu] at h
          have h' : (if cs.length = P.cellsOf t then ((List.range k).mapM fun i => DataW.trod enc P W 0 (fun _ => true) true m e ((cs.drop (i * P.cellsOf e)).take (P.cellsOf e))).map fun xs => (DataW.agg (xs.map (·.1)), xs.flatMap (·.2)) else none) = some x := by
            simpa using h
          split at h'
          · rename_i hl
            simp only [Option.map_eq_some_iff] at h'
            obtain ⟨xs, hx, _⟩ := h'
            refine ⟨0, hl, fun i hi => ?_⟩
            have hg := mapM_some_get hx i i (by simp [hi])
            have hlen := mapM_some_length hx
            simp at hlen
            exact ⟨_, hg.trans (List.getElem?_eq_getElem (by omega))⟩
          · cases h'
        obtain ⟨ρ', σ', es, ws, o1, l1, k1, k2, k3, k4, _⟩ := openEs (W := W) ((List.range' 0 k).map fun i => (cs.drop (i * P.cellsOf e)).take (P.cellsOf e)) (List.replicate k s) (by simp) (fun i c s' hc hsi ρ σ ho => by
          rw [List.getElem?_map, Option.map_eq_some_iff] at hc
          obtain ⟨j, hj, rfl⟩ := hc
          rw [List.getElem?_replicate] at hsi
          split at hsi
          · rename_i hi
            cases hsi
            rw [List.getElem?_range' hi] at hj
            cases hj
            obtain ⟨y, hy⟩ := hp i hi
            simp only [Nat.zero_add, Nat.one_mul]
            exact ih _ _ _ _ ρ σ (hblk.imp_right fun hh c hc => hh c (List.mem_of_mem_drop (List.mem_of_mem_take hc))) hs1 hy ho
          · cases hsi) ρ σ ho
        rw [range_flat _ cs k 0 (by rw [hl, ← hct]; simp)] at k3
        exact ⟨ρ', σ', .agg (flat es), ws, o1, l1, .st k1.flat, k2, by simpa using k3, k4⟩
      · cases hs
    · rename_i e hu
      split at hs
      · cases hs
      · rename_i hk0
        simp only [Option.map_eq_some_iff] at hs
        obtain ⟨s, hs1, rfl⟩ := hs
        have hcs : (cs = [.slice none 0 0]) ∨ ∃ a len cap, cs = [.slice (some a) len cap] ∧ len ≤ cap ∧ cap ≤ maxLen ∧ ∀ i, i < cap → ∃ c, W.cells? 0 (a.add (i * P.cellsOf e)) (P.cellsOf e) = some c ∧ ∃ y, DataW.trod enc P W 0 (fun _ => true) true m e c = some y := by
          unfold DataW.trod at h
          rw [hu] at h
          match cs, h with
          | [.slice none 0 0], _ => exact .inl rfl
          | [.slice (some a) len cap], h =>
            refine .inr ⟨a, len, cap, rfl, ?_⟩
            simp only [if_true] at h
            split at h
            · rename_i hc
              simp only [Option.bind_eq_some_iff, Option.map_eq_some_iff] at h
              obtain ⟨xs, hx, rest, hr, _⟩ := h
              refine ⟨hc.2.1, hc.2.2, fun i hi => ?_⟩
              have key : ∃ y, ((W.cells? 0 (a.add (i * P.cellsOf e)) (P.cellsOf e)).bind (DataW.trod enc P W 0 (fun _ => true) true m e)) = some y := by
                have l1 := mapM_some_length hx
                have l2 := mapM_some_length hr
                simp at l1 l2
                rcases Nat.lt_or_ge i len with hil | hil
                · have hg := mapM_some_get hx i i (List.getElem?_range hil)
                  exact ⟨_, hg.trans (List.getElem?_eq_getElem (by omega))⟩
                · have hg := mapM_some_get hr (i - len) (i - len) (List.getElem?_range (by omega))
                  rw [show len + (i - len) = i by omega] at hg
                  exact ⟨_, hg.trans (List.getElem?_eq_getElem (by omega))⟩
              obtain ⟨y, hy⟩ := key
              obtain ⟨c, h1, h2⟩ := Option.bind_eq_some_iff.1 hy
              exact ⟨c, h1, y, h2⟩
            · cases h
        rcases hcs with rfl | ⟨a, len, cap, rfl, hlc, hcm, hel⟩
        · exact told_plain ho rfl (by simp [refl1, eqv]) .nil
        · have hblk : HasBlk W := hblk.resolve_right fun hh => by have := hh (.slice (some a) len cap) (by simp); exact this
          obtain ⟨ρ', σ', es, ws, o1, l1, k1, k2, k3, k4, k5⟩ := openEs (W := W) ((List.range len).map fun i => (W.cells? 0 (a.add (i * P.cellsOf e)) (P.cellsOf e)).getD []) (List.replicate len s) (by simp) (fun i c s' hc hsi ρ σ ho => by
            rw [List.getElem?_map, Option.map_eq_some_iff] at hc
            obtain ⟨j, hj, rfl⟩ := hc
            have hi : i < len := by have := (List.getElem?_eq_some_iff.1 hj).1; simpa using this
            rw [List.getElem?_range hi] at hj
            cases hj
            rw [List.getElem?_replicate, if_pos hi] at hsi
            cases hsi
            obtain ⟨c, hc, y, hy⟩ := hel i (by omega)
            rw [hc]
            exact ih _ _ _ _ ρ σ (.inl hblk) hs1 hy ho) ρ σ ho
          obtain ⟨hn, hE⟩ := k1.rep
          have hcell : ∀ x ∈ es, (cellsV x).length = P.cellsOf e := by
            intro x hx
            obtain ⟨i, hi⟩ := List.getElem?_of_mem hx
            have hil : i < len := by have := (List.getElem?_eq_some_iff.1 hi).1; omega
            obtain ⟨c, hc, _⟩ := hel i (by omega)
            rw [k5 i c x (by rw [List.getElem?_map, List.getElem?_range hil]; simp [hc]) hi]
            exact (World.cells?_some hc).2.1
          have hfl : (flat es).length = len * P.cellsOf e := by rw [flat_length hcell, hn]
          -- the block
          obtain ⟨β, s0, cc, e0, fz, hb, hsz, hsp, hrd⟩ : ∃ (β s0 : Nat) (cc : Array Value) (e0 : TypeId) (fz : Nat × Nat), W.heap[β]? = some (.cells cc e0 fz) ∧ s0 + cap * P.cellsOf e ≤ cc.size ∧ (cap = 0 ∨ a = ⟨β, s0, none⟩) ∧ ∀ (i : Nat) (x : Value), ws[i]? = some x → ∃ y, cc[s0 + i]? = some y ∧ V1 ρ' x y := by
            have hwl : ws.length = len * P.cellsOf e := by rw [← k2.1, hfl]
            by_cases hc0 : cap = 0
            · obtain ⟨β, cc, e0, fz, hb⟩ := hblk
              have hw0 : ws.length = 0 := by rw [hwl, show len = 0 by omega, Nat.zero_mul]
              exact ⟨β, 0, cc, e0, fz, hb, by simp [hc0], .inl hc0, fun i x hx => by rw [List.getElem?_eq_none (by omega)] at hx; cases hx⟩
            · obtain ⟨c0, h0, _⟩ := hel 0 (by omega)
              have hadd0 : a.add (0 * P.cellsOf e) = a := by simp [Addr.add]
              rw [hadd0] at h0
              obtain ⟨cc, e0, fz, hb, _, hsp, _⟩ := cells_at h0 hk0
              obtain ⟨c1, h1, _⟩ := hel (cap - 1) (by omega)
              obtain ⟨f1, f2, _⟩ := add_facts a hsp ((cap - 1) * P.cellsOf e)
              obtain ⟨cc', e', fz', g1, g2, _, _⟩ := cells_at h1 hk0
              rw [f1, hb] at g1
              cases g1
              rw [f2] at g2
              have hmul : (cap - 1) * P.cellsOf e + P.cellsOf e = cap * P.cellsOf e := by rw [← Nat.succ_mul, show (cap - 1).succ = cap by omega]
              refine ⟨a.block, a.off, cc, e0, fz, hb, by omega, .inr (by cases a; simp_all), fun i x hx => ?_⟩
              obtain ⟨y, hy, hv⟩ := k3.get hx
              rw [chunks_flat hk0 hsp hb len (fun i hi => by obtain ⟨c, hc, _⟩ := hel i (by omega); exact ⟨c, hc⟩)] at hy
              rw [List.getElem?_take] at hy
              split at hy
              · rw [List.getElem?_drop, Array.getElem?_toList] at hy; exact ⟨y, hy, hv⟩
              · cases hy
          obtain ⟨o2, l2⟩ := o1.row (r := ws) hb (by rw [← k2.1, hfl]; exact Nat.le_trans (Nat.add_le_add_left (Nat.mul_le_mul_right _ hlc) _) hsz) hrd k4
          refine ⟨_, _, .sl 0 (P.cellsOf e) es, [.slice (some ⟨σ'.length, 0, none⟩) len (2 * P.cellsOf e + 0)], o2, l1.trans l2, .sl (by omega) hE hcell, ?_, ?_, by simp [refl1, eqv]⟩
          · refine .cons ?_ .nil
            rw [← hn]
            have hz : (stOf (σ' ++ [.arr ws 0 false])).z σ'.length = some ws := by simp [stOf]
            refine sl_mk hz (by rw [← k2.1, hfl, hn]; simp) (by decide) (.inl rfl) hk0 hcell ?_
            have := (k2.imp fun _ _ _ h => l2.R h)
            rw [List.drop_zero, hn, ← hfl, k2.1, List.take_length]
            exact this
          · exact AllL.cons (.base (.slice (o := 0) (Ren.snoc_self _ _ _) hlc (.inl rfl) (by simpa using hsz) (by simpa using hsp))) AllL.nil
    · cases hs
end Go.Vm
