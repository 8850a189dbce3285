/-
  Operations that may be put off: what they look at.
-/
import Derived.Test.YtkpamaplmjlagaaSim2
import Derived.Test.YtkpamaplmjlagaaLim
namespace Go.Ab
open Go
section
variable {P : Program}

theorem opnds_congr {fr fr' : Fr} : ∀ {xs : List Operand}, (∀ x ∈ xs, opnd fr x = opnd fr' x) → opnds fr xs = opnds fr' xs
  | [], _ => rfl
  | x :: xs, h => by simp only [opnds]; rw [h x (by simp), opnds_congr fun y hy => h y (by simp [hy])]
theorem opndP_congr {fr fr' : Fr} : ∀ {xs : List (Nat × Operand)}, (∀ x ∈ xs, opnd fr x.2 = opnd fr' x.2) → opndP fr xs = opndP fr' xs
  | [], _ => rfl
  | (i, x) :: xs, h => by simp only [opndP]; rw [h (i, x) (by simp), opndP_congr fun y hy => h y (by simp [hy])]
theorem opndO_congr {fr fr' : Fr} {x : Option Operand} (h : ∀ y, x = some y → opnd fr y = opnd fr' y) : opndO fr x = opndO fr' x := by
  cases x with
  | none => rfl
  | some y => simp only [opndO]; rw [h y rfl]

/-- An operation looks at its operands alone. -/
theorem evalOp_congr {C : Oracle} {h : Nat} {o : Oper} {fr fr' : Fr} {s : S} {k : K1} (hx : ∀ x ∈ o.op.operands, opnd fr x = opnd fr' x) : evalOp P C h o fr s k = evalOp P C h o fr' s k := by
  obtain ⟨dst, op, type, pos, after, guard⟩ := o
  simp only at hx
  cases op <;> simp only [evalOp]
  case build t ps =>
    rw [opndP_congr fun x h => hx x.2 (by simp only [Op.operands, List.mem_toArray, List.mem_map]; exact ⟨x, h, rfl⟩)]
  case buildSlice t n ps =>
    rw [opndP_congr fun x h => hx x.2 (by simp only [Op.operands, List.mem_toArray, List.mem_map]; exact ⟨x, h, rfl⟩)]
  case makeFunc fn first captured =>
    rw [opnds_congr fun x h => hx x (by simp only [Op.operands, Array.mem_append]; exact .inl (by simpa using h)), opnds_congr (xs := captured.toList) fun x h => hx x (by simp only [Op.operands, Array.mem_append]; exact .inr (by simpa using h))]
  case slice t x l hh m =>
    rw [hx x (by simp [Op.operands]), opndO_congr (x := l) fun y h => hx y (by simp [Op.operands, h]), opndO_congr (x := hh) fun y h => hx y (by simp [Op.operands, h]), opndO_congr (x := m) fun y h => hx y (by simp [Op.operands, h])]
  case call c =>
    rw [opnds_congr fun x h => hx x (by simp only [Op.operands, Call.operands, Array.mem_append]; exact .inr (by simpa using h))]
    congr 1; funext args
    split <;> try rfl
    rename_i f hf
    rw [hx f (by simp [Op.operands, Call.operands, hf])]
  case pick c a b => rw [hx c (by simp [Op.operands]), hx a (by simp [Op.operands]), hx b (by simp [Op.operands])]
  case store t a v => rw [hx a (by simp [Op.operands]), hx v (by simp [Op.operands])]
  case binOp op t a v _ => rw [hx a (by simp [Op.operands]), hx v (by simp [Op.operands])]
  case makeSlice t a v => rw [hx a (by simp [Op.operands]), hx v (by simp [Op.operands])]
  case indexAddr t a v => rw [hx a (by simp [Op.operands]), hx v (by simp [Op.operands])]
  case index t a v => rw [hx a (by simp [Op.operands]), hx v (by simp [Op.operands])]
  case move x => rw [hx x (by simp [Op.operands])]
  case assign x => rw [hx x (by simp [Op.operands])]
  case box t x => rw [hx x (by simp [Op.operands])]
  case load t x => rw [hx x (by simp [Op.operands])]
  case nilCheck x => rw [hx x (by simp [Op.operands])]
  case unOp a b x => rw [hx x (by simp [Op.operands])]
  case convert a b x => rw [hx x (by simp [Op.operands])]
  case fieldAddr a x b => rw [hx x (by simp [Op.operands])]
  case field a x b => rw [hx x (by simp [Op.operands])]
  case extract x b => rw [hx x (by simp [Op.operands])]

abbrev K0 : K1 := fun v s => some (v, s)

/-- What only computes changes nothing, and looks at no store. -/
theorem evalOp_pure {C : Oracle} {h : Nat} {o : Oper} {fr : Fr} {s : S} {v : Value} {s1 : S} (hc : classOf o.op = .pure) (he : evalOp P C h o fr s K0 = some (v, s1)) : s1 = s ∧ ∀ s', evalOp P C h o fr s' K0 = some (v, s') := by
  obtain ⟨dst, op, type, pos, after, guard⟩ := o
  simp only at hc
  cases op <;> simp only [classOf] at hc <;> try (cases hc; done)
  case call c =>
    simp only [evalOp] at he ⊢
    simp only [Option.bind_eq_some_iff] at he
    obtain ⟨args, h1, he⟩ := he
    split at hc
    all_goals first | (cases hc; done) | skip
    all_goals (rename_i hcal; rw [hcal] at he; simp only [Option.bind_eq_some_iff, Option.some.injEq, Prod.mk.injEq] at he)
    all_goals (obtain ⟨u, h2, rfl, rfl⟩ := he; refine ⟨rfl, fun s' => ?_⟩; simp only [h1, hcal, Option.bind_some, h2])
  all_goals
    simp only [evalOp, Option.bind_eq_some_iff, Option.some.injEq, Prod.mk.injEq] at he
  case move => obtain ⟨u, h2, rfl, rfl⟩ := he; exact ⟨rfl, fun s' => by simp only [evalOp, h2, Option.bind_some]⟩
  case assign => obtain ⟨u, h2, rfl, rfl⟩ := he; exact ⟨rfl, fun s' => by simp only [evalOp, h2, Option.bind_some]⟩
  case pick => obtain ⟨u, h2, u', h3, rfl, rfl⟩ := he; exact ⟨rfl, fun s' => by simp only [evalOp, h2, h3, Option.bind_some]⟩
  case build => obtain ⟨u, h2, u', h3, rfl, rfl⟩ := he; exact ⟨rfl, fun s' => by simp only [evalOp, h2, h3, Option.bind_some]⟩
  case nilCheck => obtain ⟨u, h2, u', h3, rfl, rfl⟩ := he; exact ⟨rfl, fun s' => by simp only [evalOp, h2, h3, Option.bind_some]⟩
  case unOp => obtain ⟨u, h2, u', h3, rfl, rfl⟩ := he; exact ⟨rfl, fun s' => by simp only [evalOp, h2, h3, Option.bind_some]⟩
  case convert => obtain ⟨u, h2, u', h3, rfl, rfl⟩ := he; exact ⟨rfl, fun s' => by simp only [evalOp, h2, h3, Option.bind_some]⟩
  case fieldAddr => obtain ⟨u, h2, u', h3, rfl, rfl⟩ := he; exact ⟨rfl, fun s' => by simp only [evalOp, h2, h3, Option.bind_some]⟩
  case field => obtain ⟨u, h2, u', h3, rfl, rfl⟩ := he; exact ⟨rfl, fun s' => by simp only [evalOp, h2, h3, Option.bind_some]⟩
  case extract => obtain ⟨u, h2, u', h3, rfl, rfl⟩ := he; exact ⟨rfl, fun s' => by simp only [evalOp, h2, h3, Option.bind_some]⟩
  case binOp => obtain ⟨u, h2, u', h3, u'', h4, rfl, rfl⟩ := he; exact ⟨rfl, fun s' => by simp only [evalOp, h2, h3, h4, Option.bind_some]⟩
  case makeFunc => obtain ⟨u, h2, u', h3, u'', h4, rfl, rfl⟩ := he; exact ⟨rfl, fun s' => by simp only [evalOp, h2, h3, h4, Option.bind_some]⟩
  case indexAddr => obtain ⟨u, h2, u', h3, u'', h4, rfl, rfl⟩ := he; exact ⟨rfl, fun s' => by simp only [evalOp, h2, h3, h4, Option.bind_some]⟩
  case index => obtain ⟨u, h2, u', h3, u'', h4, rfl, rfl⟩ := he; exact ⟨rfl, fun s' => by simp only [evalOp, h2, h3, h4, Option.bind_some]⟩

/-- What a value leads to is still there. -/
def keepB (s s' : S) (p : Value) : Prop := ∀ b c, blockOf p = some b → row s b = some c → row s' b = some c

theorem ld1_congr {s s' : S} {p v : Value} (hr : keepB s s' p) (h : ld1 s p = some v) : ld1 s' p = some v := by
  unfold ld1 at h ⊢
  split at h
  · rename_i b o
    simp only [Option.bind_eq_some_iff] at h ⊢
    obtain ⟨c, h1, h2⟩ := h
    exact ⟨c, hr b c rfl h1, h2⟩
  · cases h
theorem ldn_congr {n : Nat} {s s' : S} {p v : Value} (hr : keepB s s' p) (h : ldn n s p = some v) : ldn n s' p = some v := by
  unfold ldn at h ⊢
  split at h
  · rename_i b o
    simp only [Option.bind_eq_some_iff] at h ⊢
    obtain ⟨c, h1, h2⟩ := h
    exact ⟨c, hr b c rfl h1, h2⟩
  · cases h
theorem pLoad_congr {t : TypeId} {s s' : S} {p v : Value} (hr : keepB s s' p) (h : pLoad P t s p = some v) : pLoad P t s' p = some v := by
  unfold pLoad at h ⊢
  simp only [Option.bind_eq_some_iff] at h ⊢
  obtain ⟨ag, h1, h2⟩ := h
  refine ⟨ag, h1, ?_⟩
  split at h2
  · rename_i hag
    rw [if_pos hag]
    simp only [Option.bind_eq_some_iff] at h2 ⊢
    obtain ⟨n, h3, h4⟩ := h2
    exact ⟨n, h3, ldn_congr hr h4⟩
  · rename_i hag
    rw [if_neg hag]
    exact ld1_congr hr h2
theorem pSlice_congr {t : TypeId} {s s' : S} {p v : Value} {lo hi mx : Option Value} (hr : keepB s s' p) (h : pSlice P t s p lo hi mx = some v) : pSlice P t s' p lo hi mx = some v := by
  unfold pSlice at h ⊢
  split at h
  · simp only [Option.bind_eq_some_iff] at h ⊢
    obtain ⟨z, h1, h2⟩ := h
    refine ⟨z, h1, ?_⟩
    unfold sliceArr at h2 ⊢
    split at h2
    · rename_i b o
      simp only [Option.bind_eq_some_iff] at h2 ⊢
      obtain ⟨c, h3, h4⟩ := h2
      exact ⟨c, hr b c rfl h3, h4⟩
    · cases h2
  · exact h
  · exact h
  · cases h

/-- What loads changes nothing, and looks at one row. -/
theorem evalOp_load {C : Oracle} {h : Nat} {o : Oper} {fr : Fr} {s : S} {v : Value} {s1 : S} (hc : classOf o.op = .load) (he : evalOp P C h o fr s K0 = some (v, s1)) :
    s1 = s ∧ ∃ x p, loadArg o.op = some x ∧ x ∈ o.op.operands ∧ opnd fr x = some p ∧ ∀ s', keepB s s' p → evalOp P C h o fr s' K0 = some (v, s') := by
  obtain ⟨dst, op, type, pos, after, guard⟩ := o
  simp only at hc
  cases op <;> simp only [classOf] at hc <;> try (cases hc; done)
  case call c => split at hc <;> cases hc
  case load t x =>
    simp only [evalOp, Option.bind_eq_some_iff, Option.some.injEq, Prod.mk.injEq] at he
    obtain ⟨p, h1, u, h2, rfl, rfl⟩ := he
    exact ⟨rfl, x, p, rfl, by simp [Op.operands], h1, fun s' hr => by simp only [evalOp, h1, Option.bind_some, pLoad_congr hr h2]⟩
  case slice t x lo hi mx =>
    simp only [evalOp, Option.bind_eq_some_iff, Option.some.injEq, Prod.mk.injEq] at he
    obtain ⟨p, h1, u1, h2, u2, h3, u3, h4, u4, h5, rfl, rfl⟩ := he
    exact ⟨rfl, x, p, rfl, by simp [Op.operands], h1, fun s' hr => by simp only [evalOp, h1, h2, h3, h4, Option.bind_some, pSlice_congr hr h5]⟩

theorem boxc_shape {s s' : S} {cells : List Value} {p : Value} (h : boxc s cells = some (p, s')) : cells.all isCell = true ∧ p = ptr s.σ.length 0 ∧ s' = ⟨s.σ ++ [.arr cells 0 true], s.ev⟩ := by
  unfold boxc at h
  split at h
  · cases h; exact ⟨‹_›, rfl, rfl⟩
  · cases h

theorem buildSlice_core {ρ : Ren} {s s' : S} {w : World} {t : TypeId} {len : Nat} {parts : List (Nat × Value)} {parts' : Array (Nat × Value)} {v : Value} (h : pBuildSlice P t len parts s = some (v, s')) (hp : AllP (V ρ) parts parts'.toList) :
    ∃ r c e n k f cap, s' = ⟨s.σ ++ [.arr r 0 true], s.ev⟩ ∧ v = sl s.σ.length 0 n k f ∧ (Instr.buildSlice t len parts').run P w = .ok (.slice (some ⟨w.heap.size, 0, none⟩) n cap) (w.alloc (.cells c e)) ∧ AllL (V1 ρ) r (c.toList.take r.length) ∧ r.length ≤ c.size ∧ n ≤ cap ∧ (f = 0 ∨ (f = 1 ∧ cap = n)) ∧ cap * k ≤ c.size := by
  unfold pBuildSlice at h
  cases he : elemT P t with
  | none => simp [he] at h
  | some e =>
    cases hs : sizeT P e with
    | none => simp [he, hs] at h
    | some n =>
      cases hz : zeroT P e with
      | none => simp [he, hs, hz] at h
      | some z =>
        simp only [he, hs, hz, Option.bind_some, bldSl] at h
        split at h
        · rename_i hc
          obtain ⟨c1, c2, c3, c4⟩ := hc
          have hp2 := parts_V2 hp c4
          obtain ⟨hz1, hz2⟩ := run_zeroValue (w := w) hz
          cases hfill : Instr.fill (fun i => some (i * n, n)) (mkCells z.cells len).toArray parts with
          | none => simp [hfill] at h
          | some cells =>
            simp only [hfill, Option.bind_some, Option.some.injEq, Prod.mk.injEq] at h
            obtain ⟨rfl, rfl⟩ := h
            obtain ⟨r', hr', hv⟩ := fill_sim hfill hp2 (cells' := (mkCells z.cells len).toArray) (by simpa using mkCells_V hz2 len)
            have hsz : cells.size = len * n := by rw [fill_size hfill, List.size_toArray, mkCells_len, c2]
            have hsz' : r'.size = cells.size := by have := hv.1; simpa using this.symm
            refine ⟨cells.toList, r', e, len, n, 1, len, rfl, rfl, ?_, by rw [List.take_of_length_le (by simp; omega)]; exact hv, by simp; omega, Nat.le_refl _, .inr ⟨rfl, rfl⟩, by omega⟩
            unfold Instr.buildSlice
            simp only [Sem.run_bind, run_underlying (elemT_some he), Result.andThen_ok, run_sizeOf hs]
            rw [if_neg (by omega)]
            by_cases h0 : len * n = 0
            · have hcells : (Array.range (len * n)).map (fun i => (#[] : Array Value)[i % (#[] : Array Value).size]!) = (mkCells z.cells len).toArray := by
                have : mkCells z.cells len = [] := List.eq_nil_of_length_eq_zero (by rw [mkCells_len, c2]; exact h0)
                rw [this, h0]; simp
              simp only [if_pos h0, Sem.run_bind, Sem.run_pure, Result.andThen_ok, hcells, hr', run_newRow]
            · have hcells : (Array.range (len * n)).map (fun i => z.cells[i % z.cells.size]!) = (mkCells z.cells len).toArray := mkCells_model c2 c3
              simp only [if_neg h0, Sem.run_bind, hz1, Sem.run_pure, Result.andThen_ok, hcells, hr', run_newRow]
        · cases h

theorem makeSlice_core {ρ : Ren} {s s' : S} {w : World} {t : TypeId} {l l' c c' v : Value} (h : pMakeSlice P t l c s = some (v, s')) (hl : V ρ l l') (hc : V ρ c c') :
    ∃ r cc e n k f cap, s' = ⟨s.σ ++ [.arr r 0 true], s.ev⟩ ∧ v = sl s.σ.length 0 n k f ∧ (Instr.makeSlice t l' c').run P w = .ok (.slice (some ⟨w.heap.size, 0, none⟩) n cap) (w.alloc (.cells cc e)) ∧ AllL (V1 ρ) r (cc.toList.take r.length) ∧ r.length ≤ cc.size ∧ n ≤ cap ∧ (f = 0 ∨ (f = 1 ∧ cap = n)) ∧ cap * k ≤ cc.size := by
  unfold pMakeSlice at h
  cases he : elemT P t with
  | none => simp [he] at h
  | some e =>
    cases hs : sizeT P e with
    | none => simp [he, hs] at h
    | some n =>
      cases hb : bytesT P e with
      | none => simp [he, hs, hb] at h
      | some by_ =>
        cases hz : zeroT P e with
        | none => simp [he, hs, hb, hz] at h
        | some z =>
          simp only [he, hs, hb, hz, Option.bind_some, mkSl] at h
          split at h
          · rename_i l c
            obtain rfl := int_inv hl
            obtain rfl := int_inv hc
            split at h
            · rename_i hcnd
              obtain ⟨c1, c2, c3, c4, c5, c6⟩ := hcnd
              cases h
              obtain ⟨hz1, hz2⟩ := run_zeroValue (w := w) hz
              obtain ⟨i, hi⟩ : ∃ i, P.info? e = some i := by
                unfold bytesT at hb
                cases hh : P.info? e with
                | none => simp [hh] at hb
                | some i => exact ⟨i, rfl⟩
              have hib : i.bytes = by_ := by simpa [bytesT, hi] using hb
              have wl : IntKind.i64.wrap l = l := by unfold IntKind.wrap; simp [IntKind.bits, IntKind.signed]; omega
              have wc : IntKind.i64.wrap c = c := by unfold IntKind.wrap; simp [IntKind.bits, IntKind.signed]; omega
              refine ⟨mkCells z.cells l.toNat, (mkCells z.cells c.toNat).toArray, e, l.toNat, n, if l = c then 1 else 0, c.toNat, rfl, rfl, ?_, (by
                  have := (mkCells_V (ρ := ρ) hz2 c.toNat).take (l.toNat * n)
                  have e1 : (mkCells z.cells c.toNat).take (l.toNat * n) = mkCells z.cells l.toNat := by
                    have hln : l.toNat * n ≤ c.toNat * n := Nat.mul_le_mul_right _ (by omega)
                    unfold mkCells
                    rw [c5]
                    split
                    · rename_i hn1
                      rw [List.take_replicate, hn1]
                      congr 1; omega
                    · rw [← List.map_take, List.take_range]
                      congr 2; omega
                  rw [mkCells_len, c5]
                  simpa [e1] using this), (by simp [mkCells_len, c5]; exact Nat.mul_le_mul_right _ (by omega)), (by omega), (by
                    split
                    · right; exact ⟨rfl, by omega⟩
                    · left; rfl), (by simp [mkCells_len, c5])⟩
              unfold Instr.makeSlice
              have hnn : ¬((i.bytes : Int) * c > 2 ^ 48) := by rw [hib, Int.mul_comm]; omega
              have hc0 : ¬ c < 0 := by omega
              have hl0 : ¬ l < 0 := by omega
              have hlc : ¬ l > c := by omega
              simp only [Sem.run_bind, run_underlying (elemT_some he), Result.andThen_ok, asInt, asIntOf, Sem.run_pure, run_typeInfo' hi, wl, wc]
              simp only [hc0, hl0, hlc, decide_false, Bool.false_or, hnn, Bool.or_self, Bool.false_eq_true, if_false]
              simp only [Sem.run_bind, run_askRoom, Result.andThen_ok, run_sizeOf hs]
              by_cases h0 : c.toNat * n = 0
              · have hcells : (Array.range (c.toNat * n)).map (fun i => (#[] : Array Value)[i % (#[] : Array Value).size]!) = (mkCells z.cells c.toNat).toArray := by
                  have : mkCells z.cells c.toNat = [] := List.eq_nil_of_length_eq_zero (by rw [mkCells_len, c5]; exact h0)
                  rw [this, h0]; simp
                simp only [if_pos h0, Sem.run_bind, Sem.run_pure, Result.andThen_ok, hcells, run_newRow]
              · have hcells : (Array.range (c.toNat * n)).map (fun i => z.cells[i % z.cells.size]!) = (mkCells z.cells c.toNat).toArray := mkCells_model c5 c6
                simp only [if_neg h0, Sem.run_bind, hz1, Sem.run_pure, Result.andThen_ok, hcells, run_newRow]
            · cases h
          · cases h

/-- What makes an object. -/
theorem evalOp_maker {C : Oracle} {h : Nat} {o : Oper} {fr : Fr} {s : S} {v : Value} {s1 : S} (hc : classOf o.op = .maker) (he : evalOp P C h o fr s K0 = some (v, s1)) :
    ∃ r, s1 = ⟨s.σ ++ [.arr r 0 true], s.ev⟩ ∧ blockOf v = some s.σ.length ∧ loadArg o.op = none ∧
      ∀ {ρ : Ren} {a : Act} (w : World), FrOk ρ fr a → ∃ c e v', (execOp a.eval o).run P w = .ok (.value v') (w.alloc (.cells c e)) ∧ r.length ≤ c.size ∧ (∀ (i : Nat) (x : Value), r[i]? = some x → ∃ y, c[i]? = some y ∧ V1 ρ x y) ∧
        ∀ ρ' : Ren, ρ' s.σ.length = some (w.heap.size, 0, c.size) → V ρ' v v' := by
  obtain ⟨dst, op, type, pos, after, guard⟩ := o
  simp only at hc
  have conv : ∀ {ρ : Ren} {r : List Value} {c : Array Value}, AllL (V1 ρ) r (c.toList.take r.length) → ∀ (i : Nat) (x : Value), r[i]? = some x → ∃ y, c[i]? = some y ∧ V1 ρ x y := by
    intro ρ r c hr i x hx
    obtain ⟨y, hy, hv⟩ := hr.get hx
    rw [List.getElem?_take] at hy
    split at hy
    · exact ⟨y, by simpa using hy, hv⟩
    · cases hy
  have boxed : ∀ {ρ : Ren} {z z' : Value} {t : TypeId} {w : World} {p : Value} {s' : S}, boxc s z.cells.toList = some (p, s') → AllL (V1 ρ) z.cells.toList z'.cells.toList →
      z.cells.toList.length ≤ z'.cells.size ∧ (∀ (i : Nat) (x : Value), z.cells.toList[i]? = some x → ∃ y, z'.cells[i]? = some y ∧ V1 ρ x y) ∧ ∀ ρ' : Ren, ρ' s.σ.length = some (w.heap.size, 0, z'.cells.size) → V ρ' p (.pointer (some ⟨w.heap.size, 0, none⟩)) := by
    intro ρ z z' t w p s' hb hv
    obtain ⟨h1, rfl, h3⟩ := boxc_shape hb
    refine ⟨by have := hv.1; simp at this ⊢; omega, fun i x hx => ?_, fun ρ' hρ => .val (.cell (.base (.ptr (s := 0) (o := 0) hρ)))⟩
    obtain ⟨y, hy, hxy⟩ := hv.get hx
    exact ⟨y, by simpa using hy, hxy⟩
  cases op <;> simp only [classOf] at hc <;> try (cases hc; done)
  case call c => split at hc <;> cases hc
  case alloc t =>
    simp only [evalOp, Option.bind_eq_some_iff, Option.some.injEq, Prod.mk.injEq] at he
    obtain ⟨z, h1, ⟨p, s'⟩, h2, rfl, rfl⟩ := he
    obtain ⟨g1, rfl, g3⟩ := boxc_shape h2
    refine ⟨_, g3, rfl, rfl, fun {ρ a} w hF => ?_⟩
    obtain ⟨hz1, hz2⟩ := run_zeroValue (w := w) h1
    obtain ⟨b1, b2, b3⟩ := boxed (ρ := ρ) (z' := z) (t := t) (w := w) h2 (zero_cells hz2)
    exact ⟨_, t, _, by unfold execOp; exact run_v (by unfold Instr.alloc; simp only [Sem.run_bind, hz1, Result.andThen_ok, newVar, run_newRow, Sem.run_pure]), b1, b2, b3⟩
  case box t x =>
    simp only [evalOp, Option.bind_eq_some_iff, Option.some.injEq, Prod.mk.injEq] at he
    obtain ⟨z, h1, ⟨p, s'⟩, h2, rfl, rfl⟩ := he
    obtain ⟨g1, rfl, g3⟩ := boxc_shape h2
    refine ⟨_, g3, rfl, rfl, fun {ρ a} w hF => ?_⟩
    have hv := V2_cells (V2_of_isCell (opnd_sim hF h1) g1)
    obtain ⟨b1, b2, b3⟩ := boxed (ρ := ρ) (z' := a.eval x) (t := t) (w := w) h2 hv
    exact ⟨_, t, _, by unfold execOp; exact run_v (by unfold Instr.box; simp only [Sem.run_bind, newVar, run_newRow, Result.andThen_ok, Sem.run_pure]), b1, b2, b3⟩
  case buildSlice t len parts =>
    simp only [evalOp, Option.bind_eq_some_iff, Option.some.injEq, Prod.mk.injEq] at he
    obtain ⟨ps, h1, ⟨p, s'⟩, h2, rfl, rfl⟩ := he
    have shape : ∃ r n k f, s' = ⟨s.σ ++ [.arr r 0 true], s.ev⟩ ∧ p = sl s.σ.length 0 n k f := by
      unfold pBuildSlice at h2
      simp only [Option.bind_eq_some_iff, bldSl] at h2
      obtain ⟨_, _, _, _, _, _, h2⟩ := h2
      split at h2
      · simp only [Option.bind_eq_some_iff] at h2
        obtain ⟨_, _, h2⟩ := h2
        cases h2; exact ⟨_, _, _, _, rfl, rfl⟩
      · cases h2
    obtain ⟨r, n, k, f, rfl, rfl⟩ := shape
    refine ⟨r, rfl, rfl, rfl, fun {ρ a} w hF => ?_⟩
    obtain ⟨r1, c, e, n1, k1, f1, cap, e1, e2, e3, e4, e5, e6, e7, e8⟩ := buildSlice_core (w := w) (parts' := parts.map fun (i, x) => (i, a.eval x)) h2 (by simpa using opndP_sim hF h1)
    simp only [S.mk.injEq, List.append_cancel_left_eq, List.cons.injEq, AObj.arr.injEq, and_true] at e1
    subst e1
    refine ⟨c, e, _, by unfold execOp; exact run_v e3, e5, conv e4, fun ρ' hρ => ?_⟩
    rw [e2]
    exact .val (.cell (.base (.slice (s := 0) (o := 0) hρ e6 e7 (by omega) (.inr rfl))))
  case makeSlice t l c =>
    simp only [evalOp, Option.bind_eq_some_iff, Option.some.injEq, Prod.mk.injEq] at he
    obtain ⟨l1, h0, c1, h1, ⟨p, s'⟩, h2, rfl, rfl⟩ := he
    have shape : ∃ r n k f, s' = ⟨s.σ ++ [.arr r 0 true], s.ev⟩ ∧ p = sl s.σ.length 0 n k f := by
      unfold pMakeSlice at h2
      simp only [Option.bind_eq_some_iff, mkSl] at h2
      obtain ⟨_, _, _, _, _, _, _, _, h2⟩ := h2
      split at h2
      · split at h2
        · cases h2; exact ⟨_, _, _, _, rfl, rfl⟩
        · cases h2
      · cases h2
    obtain ⟨r, n, k, f, rfl, rfl⟩ := shape
    refine ⟨r, rfl, rfl, rfl, fun {ρ a} w hF => ?_⟩
    obtain ⟨r1, cc, e, n1, k1, f1, cap, e1, e2, e3, e4, e5, e6, e7, e8⟩ := makeSlice_core (w := w) h2 (opnd_sim hF h0) (opnd_sim hF h1)
    simp only [S.mk.injEq, List.append_cancel_left_eq, List.cons.injEq, AObj.arr.injEq, and_true] at e1
    subst e1
    refine ⟨cc, e, _, by unfold execOp; exact run_v e3, e5, conv e4, fun ρ' hρ => ?_⟩
    rw [e2]
    exact .val (.cell (.base (.slice (s := 0) (o := 0) hρ e6 e7 (by omega) (.inr rfl))))

end
end Go.Ab
