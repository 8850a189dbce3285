/-
  Appends and copies: the model's operations go with the abstract machine's.
-/
import Derived.Test.YtkpamaplmjlagaaOps4
namespace Go.Ab
open Go

section
variable {P : Program} {w : World}

theorem lenOf_sim {ρ : Ren} {y y' : Value} {m : Nat} (h : lenV y = some m) (hy : V ρ y y') : (Builtin.lenOf y').run P w = .ok m w := by
  unfold lenV at h
  split at h
  · cases h
    cases hy with
    | val hx => cases hx with
      | cell hx => cases hx with
        | base hx => cases hx <;> rfl
  · cases h
    obtain rfl := plain_V (by rfl) hy
    rfl
  · cases h

theorem cellsOf_len {s : S} {k m : Nat} {y : Value} {cs : List Value} (h : cellsOf s k y = some cs) (hm : lenV y = some m) : cs.length = m * k := by
  unfold cellsOf at h
  split at h
  · cases h; have hm' : 0 = m := by simpa [lenV] using hm
    subst hm'; simp
  · rename_i b o n c
    split at h
    · rename_i hk
      cases hr : row s b with
      | none => simp [hr] at h
      | some r =>
        simp only [hr, Option.bind_some] at h
        split at h
        · cases h; simp only [lenV, Option.some.injEq] at hm; subst hm; simp; omega
        · cases h
    · cases h
  · split at h
    · rename_i hk
      cases h; simp only [lenV, Option.some.injEq] at hm; subst hm hk; simp
    · cases h
  · cases h

theorem firstCells_sim {ρ : Ren} {s : S} (hI : Inv ρ s.σ w) {k m n : Nat} {y y' : Value} {cs : List Value} (h : cellsOf s k y = some cs) (hm : lenV y = some m) (hy : V ρ y y') (hn : n ≤ m) :
    ∃ cs' : Array Value, (Builtin.firstCells k n y').run P w = .ok cs' w ∧ AllL (V1 ρ) (cs.take (n * k)) cs'.toList := by
  unfold cellsOf at h
  split at h
  · cases h
    obtain rfl := plain_V (by rfl) hy
    exact ⟨#[], rfl, by simpa using AllL.nil⟩
  · rename_i b o len c
    split at h
    · rename_i hk
      cases hr : row s b with
      | none => simp [hr] at h
      | some r =>
        simp only [hr, Option.bind_some] at h
        split at h
        · rename_i hl
          cases h
          simp only [lenV, Option.some.injEq] at hm
          subst hm
          obtain ⟨k', f, β, so, N, c', a, hc, hρ, g1, g2, g3, g4, rfl⟩ := sl_inv hy
          have hnk : n * k ≤ len * k := Nat.mul_le_mul_right _ hn
          obtain ⟨lo, op, hb⟩ := row_some hr
          rcases g4 with g4 | g4
          · have : n = 0 := by omega
            subst this
            exact ⟨#[], by simp [Builtin.firstCells, loadCells, loadCellsFrom], by simpa using AllL.nil⟩
          · subst g4
            obtain ⟨cs, h1, h2⟩ := cells_of (P := P) hI hb hρ (o := o) (n := n * k) (by omega)
            refine ⟨cs.toArray, by simp [Builtin.firstCells, h1], ?_⟩
            rw [List.take_take, Nat.min_eq_left hnk]
            simpa using h2
        · cases h
    · cases h
  · rename_i x
    split at h
    · rename_i hk
      cases h
      subst hk
      simp only [lenV, Option.some.injEq] at hm
      subst hm
      obtain rfl := plain_V (by rfl) hy
      refine ⟨_, rfl, ?_⟩
      have e : ((x.extract 0 n).data.map fun b => Value.int .u8 b.toNat).toList = (x.data.toList.map fun b => Value.int .u8 b.toNat).take (n * 1) := by
        simp [ByteArray.data_extract, Array.toList_extract, List.extract]
      rw [e]
      refine AllL.refl_of fun v hv => ?_
      have := List.mem_of_mem_take hv
      obtain ⟨b, _, rfl⟩ := List.mem_map.1 this
      exact .base (.plain rfl)
    · cases h
  · cases h

theorem growBy_le (m : Nat) : ∀ (r c : Nat), Builtin.growBy m r c ≤ max c (m + (m + 768) / 4)
  | 0, c => by simp only [Builtin.growBy]; omega
  | r + 1, c => by
    simp only [Builtin.growBy]
    split
    · omega
    · have := growBy_le m r (c + (c + 768) / 4)
      omega
theorem nextcap_le {m c : Nat} (h : c < m) : Builtin.nextslicecap m c ≤ 3 * m := by
  unfold Builtin.nextslicecap
  split
  · omega
  · split
    · omega
    · have := growBy_le m 4 c
      omega

theorem run_choose_cap (need cap : Nat) (e : TypeId) : ∃ n, need ≤ n ∧ (choose (.appendCap need cap e)).run P w = .ok n w.drew :=
  ⟨(Question.appendCap need cap e).cut (w.tape w.drawn (.appendCap need cap e)), by simp only [Question.cut]; omega, by rw [run_choose]; simp only [Question.forced, Bool.false_eq_true, if_false]; rfl⟩

/-- What is appended: a slice, or a string. -/
def appends (P : Program) (u : TypeId) : Prop := (∃ e, P.underlying u = some (.slice e)) ∨ P.underlying u = some .string

theorem append_room {ts : Array TypeId} {t u ty e : TypeId} {k n m c' : Nat} {y' : Value} {base : Option Addr} {new' : Array Value} {w' : World}
    (h0 : ts[0]? = some t) (h1 : ts[1]? = some u) (hu : appends P u) (he : P.underlying t = some (.slice e)) (hk : sizeT P e = some k)
    (hlen : (Builtin.lenOf y').run P w = .ok m w) (hc : n + m ≤ c') (hnew : (Builtin.firstCells k m y').run P w = .ok new' w)
    (hst : match base with | none => w' = w | some a => (storeCells (a.add (n * k)) new'.toList).run P w = .ok () w') :
    (Builtin.append_ ts ty #[.slice base n c', y']).run P w = .ok (.slice base (n + m) c') w' := by
  have hs := run_sizeOf (P := P) (w := w) hk
  rcases hu with ⟨e', hu⟩ | hu <;> cases base with
  | none =>
    simp only at hst
    subst hst
    simp [Builtin.append_, h0, h1, run_underlying he, run_underlying hu, hs, hlen, hc, hnew]
  | some a =>
    simp only at hst
    simp [Builtin.append_, h0, h1, run_underlying he, run_underlying hu, hs, hlen, hc, hnew, hst]

theorem append_grow {ts : Array TypeId} {t u ty e : TypeId} {k by_ n m c' : Nat} {z y' : Value} {base : Option Addr} {old' new' : Array Value}
    (h0 : ts[0]? = some t) (h1 : ts[1]? = some u) (hu : appends P u) (he : P.underlying t = some (.slice e)) (hk : sizeT P e = some k) (hb : bytesT P e = some by_) (hz : zeroT P e = some z) (hb0 : by_ ≠ 0)
    (hlen : (Builtin.lenOf y').run P w = .ok m w) (hc : c' < n + m) (hby : (n + m) * by_ ≤ 2 ^ 46) (_hnm : n + m ≤ 2 ^ 46)
    (hold : (Builtin.firstCells k n (.slice base n c')).run P w.drew = .ok old' w.drew) (hnew : (Builtin.firstCells k m y').run P w.drew = .ok new' w.drew) :
    ∃ nc, n + m ≤ nc ∧ (Builtin.append_ ts ty #[.slice base n c', y']).run P w = .ok (.slice (some ⟨w.heap.size, 0, none⟩) (n + m) nc) (w.drew.alloc (.cells (old' ++ new' ++ Builtin.zeroCells z.cells (nc - (n + m))) e)) := by
  obtain ⟨hz1, hz2⟩ := run_zeroValue (P := P) (w := w.drew) hz
  obtain ⟨i, hi⟩ : ∃ i, P.info? e = some i := by
    unfold bytesT at hb
    cases hh : P.info? e with
    | none => simp [hh] at hb
    | some i => exact ⟨i, rfl⟩
  have hib : i.bytes = by_ := by simpa [bytesT, hi] using hb
  obtain ⟨nc, hnc, hch⟩ := run_choose_cap (P := P) (w := w) (n + m) c' e
  have hs := run_sizeOf (P := P) (w := w) hk
  have hti := run_typeInfo' (P := P) (w := w) hi
  have htd := run_typeInfo' (P := P) (w := w.drew) hi
  have hcap : ¬(2 ^ 48 < Builtin.nextslicecap (n + m) c' * i.bytes) := by
    rw [hib]
    have := Nat.mul_le_mul_right by_ (nextcap_le hc)
    rw [Nat.mul_assoc] at this
    omega
  have hcap' : ¬(281474976710656 < Builtin.nextslicecap (n + m) c' * i.bytes) := hcap
  have hb0' : ¬ i.bytes = 0 := by rw [hib]; exact hb0
  have hnc' : ¬ n + m ≤ c' := by omega
  refine ⟨nc, hnc, ?_⟩
  rcases hu with ⟨e', hu⟩ | hu
  · simp [-run_choose, Builtin.append_, h0, h1, run_underlying he, run_underlying hu, hs, hlen, hnc', hti, htd, hb0', hcap', hch, hold, hnew, hz1, run_newRow]
  · simp [-run_choose, Builtin.append_, h0, h1, run_underlying he, run_underlying hu, hs, hlen, hnc', hti, htd, hb0', hcap', hch, hold, hnew, hz1, run_newRow]

theorem zeroCells_size (z : Array Value) (n : Nat) : (Builtin.zeroCells z n).size = n * z.size := by simp [Builtin.zeroCells]

/-- A row made anew by an append. -/
theorem grow_step {ρ : Ren} {s : S} (hI : Inv ρ s.σ w) {old new : List Value} {old' new' zc : Array Value} {e : TypeId} {k n m nc lo : Nat} (ho : AllL (V1 ρ) old old'.toList) (hn : AllL (V1 ρ) new new'.toList) (hol : old.length = n * k) (hnl : new.length = m * k) (hz : zc.size = k)
    (hnc : n + m ≤ nc) (hlo : lo ≤ n * k + m * k) :
    ∃ ρ', Step ρ s.σ w ρ' (s.σ ++ [.arr (old ++ new) lo true]) (w.drew.alloc (.cells (old' ++ new' ++ Builtin.zeroCells zc (nc - (n + m))) e)) ∧ V ρ' (sl s.σ.length 0 (n + m) k 0) (.slice (some ⟨w.heap.size, 0, none⟩) (n + m) nc) := by
  have hd := Step.drew hI
  have h1 := ho.1
  have h2 := hn.1
  simp only [Array.length_toList] at h1 h2
  have hmul : (n + m) * k + (nc - (n + m)) * k = nc * k := by rw [← Nat.add_mul]; congr 1; omega
  rw [Nat.add_mul] at hmul
  obtain ⟨ρ', k1, k2⟩ := new_slice (w := w.drew) (s := s) hd.inv (r := old ++ new) (c := old' ++ new' ++ Builtin.zeroCells zc (nc - (n + m))) e (lo := lo) (n := n + m) (k := k) (f := 0) (cap := nc) (op := true)
    (by simp; omega) (by
      have : (old' ++ new' ++ Builtin.zeroCells zc (nc - (n + m))).toList.take (old ++ new).length = old'.toList ++ new'.toList := by
        simp only [Array.toList_append, List.length_append]
        rw [List.take_append_of_le_length (by simp; omega), List.take_of_length_le (by simp; omega)]
      rw [this]
      exact ho.append hn) (by simp [zeroCells_size, hz]; omega) hnc (.inl rfl) (by simp [zeroCells_size, hz]; omega)
  exact ⟨ρ', hd.trans k1, k2⟩

theorem append_sim {ρ : Ren} {s s' : S} (hI : Inv ρ s.σ w) {ts : Array TypeId} {ty : TypeId} {x x' y y' v : Value} (h : pAppend P ts x y s = some (v, s')) (hx : V ρ x x') (hy : V ρ y y') :
    ∃ v' w' ρ', (Builtin.append_ ts ty #[x', y']).run P w = .ok v' w' ∧ Step ρ s.σ w ρ' s'.σ w' ∧ V ρ' v v' := by
  unfold pAppend at h
  split at h
  · rename_i t u h0 h1
    have hcase : appends P u ∧ ((elemT P t).bind fun e => (sizeT P e).bind fun k => (bytesT P e).bind fun by_ => (zeroT P e).bind fun z => if by_ ≠ 0 ∧ k ≠ 0 ∧ z.cells.size = k then appendA k by_ x y s else none) = some (v, s') := by
      split at h
      · exact ⟨.inl ⟨_, ‹_›⟩, h⟩
      · exact ⟨.inr ‹_›, h⟩
      · cases h
    clear h
    obtain ⟨hu, h⟩ := hcase
    cases he : elemT P t with
    | none => simp [he] at h
    | some e =>
      cases hk : sizeT P e with
      | none => simp [he, hk] at h
      | some k =>
        cases hb : bytesT P e with
        | none => simp [he, hk, hb] at h
        | some by_ =>
          cases hz : zeroT P e with
          | none => simp [he, hk, hb, hz] at h
          | some z =>
            simp only [he, hk, hb, hz, Option.bind_some] at h
            have he' := elemT_some he
            split at h
            · rename_i hcnd
              obtain ⟨hb0, hk0, hzk⟩ := hcnd
              unfold appendA at h
              cases hn : cellsOf s k y with
              | none => simp [hn] at h
              | some new =>
                cases hm : lenV y with
                | none => simp [hn, hm] at h
                | some m =>
                  simp only [hn, hm, Option.bind_some] at h
                  have hlen := lenOf_sim (P := P) (w := w) hm hy
                  have hnl := cellsOf_len hn hm
                  obtain ⟨new', hnew, hnV⟩ := firstCells_sim (P := P) hI hn hm hy (Nat.le_refl m)
                  obtain ⟨newd, hnewd, hnVd⟩ := firstCells_sim (P := P) (w := w.drew) (Step.drew hI).inv hn hm hy (Nat.le_refl m)
                  rw [List.take_of_length_le (by omega)] at hnV hnVd
                  split at h
                  · obtain rfl := plain_V (by rfl) hx
                    split at h
                    · rename_i hm0
                      cases h
                      subst hm0
                      exact ⟨_, w, ρ, append_room (P := P) (w := w) h0 h1 hu he' hk hlen (by omega) hnew rfl, Step.refl hI, V_of_plain rfl⟩
                    · split at h
                      · rename_i hbd
                        cases h
                        obtain ⟨nc, q1, q2⟩ := append_grow (P := P) (w := w) (n := 0) (c' := 0) (base := none) (ty := ty) h0 h1 hu he' hk hb hz hb0 hlen (by omega) (by rw [Nat.zero_add]; omega) (by omega) (old' := #[]) rfl hnewd
                        obtain ⟨ρ', g1, g2⟩ := grow_step (e := e) (k := k) (n := 0) (m := m) (nc := nc) (lo := 0) hI (old := []) (old' := #[]) AllL.nil hnVd (by simp) hnl hzk q1 (by omega)
                        simp only [Nat.zero_add] at q2 g1 g2
                        exact ⟨_, _, ρ', q2, g1, g2⟩
                      · cases h
                  · rename_i b o n c
                    split at h
                    · rename_i hck
                      split at h
                      · rename_i r lo op hrow
                        split at h
                        · rename_i hbd
                          obtain ⟨b1, b2, b3⟩ := hbd
                          obtain ⟨k', f, β, so, N, c', a, hc, hρ, g1, g2, g3, g4, rfl⟩ := sl_inv hx
                          have hkk : k' = k := by omega
                          subst hkk
                          split at h
                          · rename_i hm0
                            cases h
                            subst hm0
                            refine ⟨_, w, ρ, append_room (P := P) (w := w) (base := some a) (w' := w) h0 h1 hu he' hk hlen (by omega) hnew ?_, Step.refl hI, hx⟩
                            have : new' = #[] := by
                              have := hnV.1
                              rw [hnl] at this
                              simp at this
                              exact Array.eq_empty_of_size_eq_zero this.symm
                            subst this
                            rfl
                          · rename_i hm0
                            have hold : cellsOf s k' (.slice (some ⟨b, o, none⟩) n c) = some ((r.drop o).take (n * k')) := by
                              have : row s b = some r := by simp [row, hrow]
                              simp [cellsOf, hck, this, b1]
                            obtain ⟨oldd, holdd, hoVd⟩ := firstCells_sim (P := P) (w := w.drew) (Step.drew hI).inv hold (m := n) rfl hx (Nat.le_refl n)
                            have hol : ((r.drop o).take (n * k')).length = n * k' := by simp; omega
                            rw [List.take_of_length_le (by omega)] at hoVd
                            split at h
                            · rename_i hexact
                              cases h
                              have hcn : c' = n := by rcases g2 with g2 | g2 <;> omega
                              subst hcn
                              obtain ⟨nc, q1, q2⟩ := append_grow (P := P) (w := w) (ty := ty) h0 h1 hu he' hk hb hz hb0 hlen (by omega) b2 b3 holdd hnewd
                              obtain ⟨ρ', p1, p2⟩ := grow_step (e := e) (lo := 0) hI hoVd hnVd hol hnl hzk q1 (by omega)
                              exact ⟨_, _, ρ', q2, p1, p2⟩
                            · split at h
                              · rename_i hopen
                                obtain ⟨o1, o2, o3⟩ := hopen
                                subst o1
                                cases h
                                by_cases hroom : n + m ≤ c'
                                · have hc0 : c' ≠ 0 := by omega
                                  obtain rfl := g4.resolve_left hc0
                                  obtain ⟨cc, ee, fz, k1, k2, k3, k4, k5, k6⟩ := hI.arr _ _ _ _ _ _ _ hrow hρ
                                  have hmul : (n + m) * k' ≤ c' * k' := Nat.mul_le_mul_right _ hroom
                                  rw [Nat.add_mul] at hmul
                                  have hn1 := hnV.1
                                  have hrun := run_storeCells_cells (P := P) β (so + o + n * k') new'.toList 0 w
                                    (fun j hj => by
                                      have : so + o + n * k' + j < cc.size := by omega
                                      simp [World.cell?, k1, this])
                                    (fun j hj => by
                                      have := k6 rfl (so + o + n * k' + j) (by omega) (by omega)
                                      simp [World.frozen?, k1]
                                      omega)
                                    (fun v hv' => by
                                      obtain ⟨i, hi⟩ := List.getElem?_of_mem hv'
                                      have hil := get_lt hi
                                      obtain ⟨x, hx⟩ : ∃ x, new[i]? = some x := ⟨_, List.getElem?_eq_getElem (by omega)⟩
                                      exact isCell_V1 (hnV.2 i x v hx hi))
                                  simp only [Nat.add_zero] at hrun
                                  obtain ⟨c1, m1, m2, m3⟩ := heap_setCells β new'.toList (so + o + n * k') w cc ee fz k1
                                  have hos := setCells_os β new'.toList (so + o + n * k') w
                                  have hq := append_room (P := P) (w := w) (ty := ty) (base := some ⟨β, so + o, none⟩) (w' := w.setCells β (so + o + n * k') new'.toList) h0 h1 hu he' hk hlen hroom hnew (by simp only [addr_add]; exact hrun)
                                  have hstep := inv_grow hI (o := o) (new := new) hrow hρ k1 m2 (by omega) (by omega) (fun i x hx => by
                                      obtain ⟨y, hy, hxy⟩ := hnV.get hx
                                      refine ⟨y, ?_, hxy⟩
                                      have hil := get_lt hx
                                      have hc' : c1[so + r.length + i]? = (setCells cc.toList (so + o + n * k') new'.toList)[so + r.length + i]? := by rw [← m3]; simp
                                      rw [hc', setCells_get, if_pos (by simp at hn1 ⊢; omega), show so + r.length + i - (so + o + n * k') = i by omega]
                                      exact hy) (fun i hi => by
                                      have hc' : c1[i]? = (setCells cc.toList (so + o + n * k') new'.toList)[i]? := by rw [← m3]; simp
                                      rw [hc', setCells_get, if_neg (by omega)]; simp) m1 hos.1 hos.2.1 hos.2.2
                                  have hlo : r.length - o = n * k' := by omega
                                  have htk : (r.drop o).take (n * k') = r.drop o := List.take_of_length_le (by simp; omega)
                                  rw [hlo] at hstep
                                  rw [htk]
                                  refine ⟨_, _, _, hq, hstep, .val (.cell (.base ?_))⟩
                                  have hv := V0.slice (ρ := ρ.snoc s.σ.length (β, so + o, N)) (b := s.σ.length) (o := 0) (n := n + m) (k := k') (f := 0) (c := c') (a := ⟨β, so + o, none⟩) (Ren.snoc_self _ _ _) hroom (.inl rfl) (by omega) (.inr (by simp))
                                  exact hv
                                · obtain ⟨nc, q1, q2⟩ := append_grow (P := P) (w := w) (ty := ty) h0 h1 hu he' hk hb hz hb0 hlen (by omega) b2 b3 holdd hnewd
                                  have hseal := inv_seal hI hrow
                                  obtain ⟨ρ', p1, p2⟩ := grow_step (s := ⟨s.σ.set b (.arr r lo false), s.ev⟩) (e := e) (lo := n * k') hseal.inv hoVd hnVd hol hnl hzk q1 (by omega)
                                  simp only [List.length_set] at p2
                                  exact ⟨_, _, ρ', q2, hseal.trans p1, p2⟩
                              · cases h
                        · cases h
                      · cases h
                    · cases h
                  · cases h
            · cases h
  · cases h

theorem copy_sim {ρ : Ren} {s s' : S} (hI : Inv ρ s.σ w) {hh : Nat} {ts : Array TypeId} {ty : TypeId} {x x' y y' v : Value} (h : pCopy P hh ts x y s = some (v, s')) (hx : V ρ x x') (hy : V ρ y y') :
    ∃ w', (Builtin.copy_ ts ty #[x', y']).run P w = .ok v w' ∧ Step ρ s.σ w ρ s'.σ w' ∧ plain v = true := by
  unfold pCopy at h
  split at h
  · rename_i t h0
    cases he : elemT P t with
    | none => simp [he] at h
    | some e =>
      cases hk : sizeT P e with
      | none => simp [he, hk] at h
      | some k =>
        simp only [he, hk, Option.bind_some] at h
        have he' := elemT_some he
        have hs := run_sizeOf (P := P) (w := w) hk
        unfold copyA at h
        cases hn : cellsOf s k y with
        | none => simp [hn] at h
        | some new =>
          cases hm : lenV y with
          | none => simp [hn, hm] at h
          | some m =>
            simp only [hn, hm, Option.bind_some] at h
            have hlen := lenOf_sim (P := P) (w := w) hm hy
            split at h
            · cases h
              obtain rfl := plain_V (by rfl) hx
              obtain ⟨new', hnew, hnV⟩ := firstCells_sim (P := P) hI hn hm hy (Nat.zero_le m)
              refine ⟨w, ?_, Step.refl hI, rfl⟩
              simp [Builtin.copy_, h0, run_underlying he', hs, hlen, hnew, goInt]
            · rename_i b o n c
              split at h
              · rename_i hck
                obtain ⟨k', f, β, so, N, c', a, hc, hρ, g1, g2, g3, g4, rfl⟩ := sl_inv hx
                have hkk : k' = k := by omega
                subst hkk
                obtain ⟨new', hnew, hnV⟩ := firstCells_sim (P := P) hI hn hm hy (Nat.min_le_left m n)
                split at h
                · rename_i hmin
                  cases h
                  refine ⟨w, ?_, Step.refl hI, rfl⟩
                  have : new' = #[] := by
                    have := hnV.1
                    rw [hmin] at this
                    simp at this
                    exact Array.eq_empty_of_size_eq_zero this.symm
                  subst this
                  have hmin' : Nat.min m n = 0 := hmin
                  rw [hmin] at hnew
                  simp [Builtin.copy_, h0, run_underlying he', hs, hlen, hmin', hnew, goInt, storeCells]
                · rename_i hmin
                  simp only [Option.map_eq_some_iff] at h
                  obtain ⟨s1, hst, hres⟩ := h
                  cases hres
                  have hc0 : c' ≠ 0 := by omega
                  obtain rfl := g4.resolve_left hc0
                  obtain ⟨a, w', ha, hrun, hstep⟩ := stn_sim (P := P) hI hst (.val (.cell (.base (.ptr hρ)))) hnV
                  cases ha
                  refine ⟨w', ?_, hstep, rfl⟩
                  have hnew2 : (Builtin.firstCells k' (Nat.min m n) y').run P w = .ok new' w := hnew
                  simp [Builtin.copy_, h0, run_underlying he', hs, hlen, hnew2, goInt, hrun]
              · cases h
            · cases h
  · cases h

end
end Go.Ab
