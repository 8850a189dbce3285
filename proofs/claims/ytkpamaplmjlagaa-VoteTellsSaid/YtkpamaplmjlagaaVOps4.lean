/-
  The operations of the machine of values, in the abstract machine: what is made, appended, copied; plain operations.
-/
import Derived.Test.YtkpamaplmjlagaaVOps3
namespace Go.Vm
open Go Go.Ab
set_option linter.unusedVariables false

section
variable {P : Program} {s : St} {σ : List VObj} {α : List AObj}
variable {ι : Nat → Option Nat} {z : Nat → Option (List Value)} {lit : Nat → Prop}

theorem elems_sim {vs : VS} {as : S} (hR : Rel s vs.σ as.σ) {ag : Bool} {k : Nat} {y : VV} {yw : Value} {new : List VV} (hag : ag = true ∨ k = 1) (h : elems ag vs k y = some new) (hy : s.R y yw) :
    ∃ cs, cellsOf as k yw = some cs ∧ Ab.lenV yw = some new.length ∧ All2 s.R (flat new) cs := by
  unfold elems at h
  split at h
  · cases h
    obtain ⟨rfl, _⟩ := hy.p_inv
    exact ⟨[], rfl, rfl, .nil⟩
  · rename_i ag' b o n k' f
    obtain ⟨a, ha, hf, hag', rfl⟩ := hy.rs_inv
    split at h
    · rename_i hk
      subst hk
      simp only [Option.bind_eq_some_iff] at h
      obtain ⟨r, hr, h⟩ := h
      split at h
      · rename_i hb
        cases h
        obtain ⟨c', g1, g2, g3⟩ := row_sim hR hr ha
        obtain ⟨q1, q2, q3⟩ := chunk_spec (ag := ag) (k := k') n ((r.drop o).map cls) (hag.imp_right fun h => ⟨h, by
          rw [List.all_eq_true]
          intro x hx
          rw [List.mem_map] at hx
          obtain ⟨y, hy, rfl⟩ := hx
          rw [isC_cls]
          exact (List.all_eq_true.1 hb.2) _ (List.mem_of_mem_drop hy)⟩) (by simp; omega)
        refine ⟨(c'.drop o).take (n * k'), ?_, by rw [q2]; rfl, ?_⟩
        · simp only [cellsOf, (half_k hf).1, if_true, g1, Option.bind_some]; rw [if_pos (by omega)]
        · rw [q1, List.map_drop]; exact ((cells_cls (b := b) g2 g3).drop o).take _
      · cases h
    · cases h
  · rename_i f k' es
    split at h
    · rename_i hk
      subst hk
      cases h
      obtain ⟨a, o, c, r, g1, rfl, g2, g3, _, _, _, g4⟩ := sl_cells hy
      refine ⟨_, ?_, rfl, g4⟩
      simp only [cellsOf, (half_k g3).1, if_true, zrow_row hR g1, Option.bind_some]; rw [if_pos g2]
    · cases h
  · rename_i x
    split at h
    · rename_i hk
      cases h
      obtain ⟨rfl, _⟩ := hy.p_inv
      refine ⟨x.data.toList.map fun b => .int .u8 b.toNat, ?_, ?_, ?_⟩
      · simp only [cellsOf]; rw [if_pos hk.1]
      · show some x.size = some _
        rw [List.length_map, Array.length_toList]; rfl
      · have : ∀ l : List UInt8, All2 s.R (flat (l.map fun b => VI .u8 b.toNat)) (l.map fun b => .int .u8 b.toNat) := by
          intro l
          induction l with
          | nil => exact .nil
          | cons b l ih => exact .cons (.p rfl) ih
        exact this _
    · cases h
  · cases h

theorem flat_take {k : Nat} : ∀ {es : List VV}, (∀ e ∈ es, (cellsV e).length = k) → ∀ m, flat (es.take m) = (flat es).take (m * k)
  | [], _, m => by simp [flat]
  | e :: es, h, 0 => by simp [flat]
  | e :: es, h, m + 1 => by
    have h0 := h e (by simp)
    rw [List.take_succ_cons, flat_cons, flat_cons, flat_take (fun e he => h e (by simp [he])) m, show (m + 1) * k = (cellsV e).length + m * k by rw [h0, Nat.add_mul]; omega, List.take_length_add_append]
theorem all_refl {cs : List Value} {xs : List VV} (h : All2 (VR ι z lit) xs cs) (hs : xs.all simpleV = true) : cs.all refl1 = true := by
  induction xs generalizing cs with
  | nil => rw [h.nil_inv]; rfl
  | cons x xs ih =>
    obtain ⟨y, b, rfl, h1, h2⟩ := h.cons_inv
    simp at hs
    simp only [List.all_cons, Bool.and_eq_true]
    exact ⟨simple_refl h1 hs.1, ih h2 (by simpa using hs.2)⟩

/-- What an operation leaves: the value, the store, and how all has become. -/
def Made (s : St) (vs : VS) (as : S) (v : VV) (vs1 : VS) (ws : List Nat) (r : Option (Value × S)) : Prop :=
  ∃ w as1 s1, r = some (w, as1) ∧ Rel s1 vs1.σ as1.σ ∧ Ex Loc.fix s vs.σ as.σ s1 vs1.σ as1.σ ws ∧ VT s1 .res v w ∧ vs1.ev = vs.ev

theorem app_sim {vs vs1 : VS} {as : S} (hR : Rel s vs.σ as.σ) {alt ag : Bool} {h k by_ : Nat} {x y v : VV} {xw yw : Value} (hh : appV alt ag h k by_ x y vs = some (v, vs1)) (hx : VT s .res x xw) (hy : s.R y yw) :
    Made s vs as v vs1 (wsOf x) (appendA k by_ xw yw as) ∧ (vs1.wr = vs.wr ∨ True) := by
  unfold appV at hh
  split at hh
  case isFalse => cases hh
  rename_i hagk
  obtain ⟨hagk, hk0⟩ := hagk
  simp only [Option.bind_eq_some_iff] at hh
  obtain ⟨new, hnew, hh⟩ := hh
  obtain ⟨cs, h1, h2, h3⟩ := elems_sim hR hagk hnew hy
  split at hh
  · -- to nothing
    obtain ⟨rfl, _⟩ := (hx.not2 rfl).p_inv
    split at hh
    · rename_i h0
      simp only [Option.some.injEq, Prod.mk.injEq] at hh
      obtain ⟨rfl, rfl⟩ := hh
      refine ⟨⟨nils, as, s, ?_, hR, Ex.refl _ _ _ _, .c (.p rfl), rfl⟩, .inl rfl⟩
      simp only [appendA, h1, h2, Option.bind_some, h0, if_true]
    · rename_i h0
      split at hh
      · rename_i hc
        have hl := flat_length (k := k) (fun e he => by simpa using (List.all_eq_true.1 hc.2.2.2) e he)
        cases alt with
        | true =>
          simp only [if_true, Option.some.injEq, Prod.mk.injEq] at hh
          obtain ⟨rfl, rfl⟩ := hh
          obtain ⟨s1, k1, k2, k3, k4, k5, k6⟩ := rel_new hR 0 0 (Nat.le_refl _) (Nat.zero_le _) h3
          refine ⟨⟨_, ⟨_, as.ev⟩, s1, ?_, k1, k2.ws (by simp), .c (.rs k3 (by decide) hagk), rfl⟩, .inl rfl⟩
          simp only [appendA, h1, h2, Option.bind_some]
          rw [if_neg h0, if_pos ⟨hc.1, hc.2.1⟩]; rfl
        | false =>
          simp only [Bool.false_eq_true, if_false, Option.some.injEq, Prod.mk.injEq] at hh
          obtain ⟨rfl, rfl⟩ := hh
          obtain ⟨s1, k1, k2, k3, _, k4, k5, _⟩ := rel_newz hR (c' := cs) 0 (Nat.zero_le _) (all_refl h3 hc.2.2.1) false
          have hcl : cs.length = new.length * k := by rw [← h3.1]; exact hl
          have hm := sl_mk (ι := s1.ι) (z := s1.z) (lit := s1.lit) (f := 0) (k := k) (a := as.σ.length) (o := 0) (c := 0) (es := new) (r := cs) k3 (by omega) (by decide) (.inl rfl) hk0 (fun e he => by simpa using (List.all_eq_true.1 hc.2.2.2) e he) (by
            rw [List.drop_zero, List.take_of_length_le (by omega)]
            exact h3.imp fun x w _ hxw => k2.R hR hxw)
          refine ⟨⟨_, ⟨_, as.ev⟩, s1, ?_, k1, k2.ws (by simp), .o k3 (by omega) (k4 rfl) hm, rfl⟩, .inl rfl⟩
          simp only [appendA, h1, h2, Option.bind_some]
          rw [if_neg h0, if_pos ⟨hc.1, hc.2.1⟩]; rfl
      · cases hh
  · -- to a value
    rename_i f k' es
    split at hh
    · rename_i hc
      obtain ⟨rfl, hf0, hb1, hb2⟩ := hc
      have hxx : ∃ a o c r lo op, s.z a = some r ∧ xw = .slice (some ⟨a, o, none⟩) es.length (2 * k' + c) ∧ o + es.length * k' ≤ r.length ∧ c < 2 ∧ as.σ[a]? = some (.arr r lo op) ∧ k' ≠ 0 ∧ (∀ e ∈ es, (cellsV e).length = k') ∧
          All2 s.R (flat es) ((r.drop o).take (es.length * k')) ∧ ((c = 1 ∧ f ≠ 2) ∨ (c = 0 ∧ f = 2 ∧ s.ow a = some .res ∧ op = true ∧ o + es.length * k' = r.length ∧ lo ≤ r.length)) := by
        cases hx with
        | c hr =>
          obtain ⟨a, o, c, r, g1, g2, g3, g4, g5, g6, g7, g8⟩ := sl_cells hr
          obtain ⟨lo, op, g9, _⟩ := hR.zrow _ _ g1
          refine ⟨a, o, c, r, lo, op, g1, g2, g3, g4, g9, g6, g7, g8, .inl ?_⟩
          rcases g5 with h | ⟨h, h', _⟩ | ⟨h, h'⟩ <;> omega
        | @o _ _ a o r hz he how hr =>
          obtain ⟨a', o', c, r', g1, g2, g3, g4, g5, g6, g7, g8⟩ := sl_cells hr
          simp only [Value.slice.injEq, Option.some.injEq, Addr.mk.injEq] at g2
          obtain ⟨⟨rfl, rfl, _⟩, _, g2⟩ := g2
          rw [hz] at g1; cases g1
          obtain ⟨⟨r', lo, q1, q2, q3⟩, _, _⟩ := hR.own _ _ how
          rw [hz] at q1; cases q1
          exact ⟨a, o, c, r, lo, true, hz, by rw [show c = 0 by omega]; rfl, g3, g4, q2, g6, g7, g8, .inr ⟨by omega, rfl, how, rfl, he, q3⟩⟩
      obtain ⟨a, o, c, r, lo, op, g1, rfl, g3, g4, g5, g6, g7, g8, g9⟩ := hxx
      have hA : appendA k' by_ (.slice (some ⟨a, o, none⟩) es.length (2 * k' + c)) yw as = if new.length = 0 then some (.slice (some ⟨a, o, none⟩) es.length (2 * k' + c), as)
          else if c = 1 then some (sl as.σ.length 0 (es.length + new.length) k' 0, ⟨as.σ ++ [.arr ((r.drop o).take (es.length * k') ++ cs) 0 true], as.ev⟩)
          else if op = true ∧ o + es.length * k' = r.length ∧ lo ≤ o + es.length * k' then some (sl as.σ.length 0 (es.length + new.length) k' 0, ⟨as.σ.set a (.arr r lo false) ++ [.arr ((r.drop o).take (es.length * k') ++ cs) (es.length * k') true], as.ev⟩) else none := by
        simp only [appendA, h1, h2, Option.bind_some, (half_k g4).1, (half_k g4).2, if_true, g5]
        rw [if_pos ⟨g3, hb1, hb2⟩]
      split at hh
      · rename_i h0
        simp only [Option.some.injEq, Prod.mk.injEq] at hh
        obtain ⟨rfl, rfl⟩ := hh
        refine ⟨⟨_, as, s, by rw [hA, if_pos h0], hR, Ex.refl _ _ _ _, hx, rfl⟩, .inl rfl⟩
      · rename_i h0
        split at hh
        · rename_i hc
          have hnk : ∀ e ∈ new, (cellsV e).length = k' := fun e he => by simpa using (List.all_eq_true.1 hc.2.2) e he
          have hl := flat_length (k := k') hnk
          have hle := flat_length (k := k') g7
          have hrow : All2 s.R (flat (es ++ new)) ((r.drop o).take (es.length * k') ++ cs) := by rw [flat_append]; exact g8.append h3
          have hrl : ((r.drop o).take (es.length * k') ++ cs).length = (es.length + new.length) * k' := by rw [← hrow.1, flat_append, List.length_append, hl, hle, Nat.add_mul]
          have hsim : ((r.drop o).take (es.length * k') ++ cs).all refl1 = true := all_refl hrow (by rw [flat_append, List.all_append, hc.1, hc.2.1]; rfl)
          have hk2 : ∀ e ∈ es ++ new, (cellsV e).length = k' := fun e he => by rcases List.mem_append.1 he with h | h; exact g7 e h; exact hnk e h
          rcases g9 with ⟨rfl, hf2⟩ | ⟨rfl, rfl, how, rfl, hend, hlo⟩
          · cases alt with
            | true =>
              simp only [if_true, hf2, ne_eq, not_false_eq_true, Option.some.injEq, Prod.mk.injEq] at hh
              obtain ⟨rfl, rfl⟩ := hh
              obtain ⟨s1, k1, k2, k3, k4, k5, k6⟩ := rel_new hR 0 0 (Nat.le_refl _) (Nat.zero_le _) hrow
              exact ⟨⟨_, ⟨_, as.ev⟩, s1, by rw [hA, if_neg h0, if_pos rfl]; rfl, k1, k2.ws (by simp), .c (.rs k3 (by decide) hagk), rfl⟩, .inl rfl⟩
            | false =>
              simp only [Bool.false_eq_true, if_false, Option.some.injEq, Prod.mk.injEq] at hh
              obtain ⟨rfl, rfl⟩ := hh
              obtain ⟨s1, k1, k2, k3, _, k4, k5, _⟩ := rel_newz hR (c' := (r.drop o).take (es.length * k') ++ cs) 0 (Nat.zero_le _) hsim false
              have hm := sl_mk (ι := s1.ι) (z := s1.z) (lit := s1.lit) (f := 0) (k := k') (a := as.σ.length) (o := 0) (c := 0) (es := es ++ new) k3 (by simp [hrl]) (by decide) (.inl rfl) g6 hk2 (by
                rw [List.drop_zero, List.take_of_length_le (by simp [hrl])]
                exact hrow.imp fun x w _ hxw => k2.R hR hxw)
              refine ⟨⟨_, ⟨_, as.ev⟩, s1, by rw [hA, if_neg h0, if_pos rfl], k1, k2.ws (by simp), ?_, rfl⟩, .inl rfl⟩
              have := VT.o (L := .res) k3 (by simp [hrl]) (k4 rfl) hm
              rw [List.length_append] at this
              exact this
          · cases alt with
            | true => simp at hh
            | false =>
              simp only [Bool.false_eq_true, if_false, Option.some.injEq, Prod.mk.injEq] at hh
              obtain ⟨rfl, rfl⟩ := hh
              -- the elder row is sealed
              obtain ⟨s0, hR0, e1, e2, e3, e4, e5⟩ : ∃ s0 : St, Rel s0 vs.σ (as.σ.set a (.arr r lo false)) ∧ s0.ι = s.ι ∧ s0.z = s.z ∧ s0.lit = s.lit ∧ (∀ a' L, a' ≠ a → s.ow a' = some L → s0.ow a' = some L) ∧ (∀ a' L, s0.ow a' = some L → s.ow a' = some L ∧ a' ≠ a) := by
                let s0 : St := { s with ow := fun a' => if a' = a then none else s.ow a' }
                have o1 : ∀ a' L, a' ≠ a → s.ow a' = some L → s0.ow a' = some L := fun a' L hne hL => by simp only [s0]; rw [if_neg hne]; exact hL
                have o2 : ∀ a' L, s0.ow a' = some L → s.ow a' = some L ∧ a' ≠ a := fun a' L hL => by
                  simp only [s0] at hL
                  split at hL
                  · cases hL
                  · exact ⟨hL, by assumption⟩
                obtain ⟨_, hnl, hnι⟩ := hR.own _ _ how
                refine ⟨s0, ⟨hR.dom, hR.inj, ?_, ?_, hR.zi, ?_, hR.litz⟩, rfl, rfl, rfl, o1, o2⟩
                · intro b c1 lo1 op1 hb
                  obtain ⟨a2, c2, lo2, op2, q1, q2, q3, q4, q5, q6⟩ := hR.obj _ _ _ _ hb
                  have hne : a2 ≠ a := fun he => hnι b (he ▸ q1)
                  refine ⟨a2, c2, lo2, op2, q1, by rw [set_ne hne]; exact q2, q3, q4, q5, fun j y w hy hw => ?_⟩
                  have := q6 j y w hy hw
                  cases this with
                  | c h => exact .c h
                  | @o _ _ a3 _ _ hz he hoo h =>
                    refine .o hz he (o1 _ _ ?_ hoo) h
                    rintro rfl
                    rw [how] at hoo; cases hoo
                · intro a2 r2 hz
                  by_cases hne : a2 = a
                  · subst hne
                    rw [g1] at hz; cases hz
                    obtain ⟨_, _, _, hr⟩ := hR.zrow _ _ g1
                    exact ⟨lo, false, set_self g5, hr⟩
                  · obtain ⟨lo2, op2, q1, q2⟩ := hR.zrow _ _ hz
                    exact ⟨lo2, op2, by rw [set_ne hne]; exact q1, q2⟩
                · intro a2 L hL
                  obtain ⟨hL, hne⟩ := o2 _ _ hL
                  obtain ⟨⟨r2, lo2, q1, q2, q3⟩, q4, q5⟩ := hR.own _ _ hL
                  exact ⟨⟨r2, lo2, q1, by rw [set_ne hne]; exact q2, q3⟩, q4, q5⟩
              have hrow0 : All2 s0.R (flat (es ++ new)) ((r.drop o).take (es.length * k') ++ cs) := hrow.imp fun x w _ hxw => by unfold St.R; rw [e1, e2, e3]; exact hxw
              obtain ⟨s1, k1, k2, k3, _, k4, k5, k6, k7⟩ := rel_newz hR0 (c' := (r.drop o).take (es.length * k') ++ cs) (es.length * k') (by rw [hrl, Nat.add_mul]; omega) hsim false
              rw [List.length_set] at k3 k4 k6 k7
              have hm := sl_mk (ι := s1.ι) (z := s1.z) (lit := s1.lit) (f := 0) (k := k') (a := as.σ.length) (o := 0) (c := 0) (es := es ++ new) k3 (by simp [hrl]) (by decide) (.inl rfl) g6 hk2 (by
                rw [List.drop_zero, List.take_of_length_le (by simp [hrl])]
                exact hrow0.imp fun x w _ hxw => k2.R hR0 hxw)
              refine ⟨⟨_, ⟨_, as.ev⟩, s1, by rw [hA, if_neg h0, if_neg (by decide), if_pos ⟨rfl, hend, by omega⟩], k1, ?_, ?_, rfl⟩, .inl rfl⟩
              · refine ⟨fun a2 r2 hz => k2.z a2 r2 (by rw [e2]; exact hz), fun a2 h => k2.lit a2 (by rw [e3]; exact h), fun b hb => (k2.ι b hb).trans (by rw [e1]), Nat.le_refl _, by simp, fun a2 L hL hf => k2.ow a2 L (e4 a2 L (fun he => ?_) hL) hf, fun b a2 _ hb => ?_, fun a2 r2 hz hh => ?_⟩
                · rw [he, how] at hL; cases hL; exact hf
                · have hne : a2 ≠ a := fun he => (hR.own _ _ how).2.2 b (he ▸ hb)
                  rw [List.getElem?_append_left (by rw [List.length_set]; exact hR.alt hb), set_ne hne]
                · have hne : a2 ≠ a := by
                    rintro rfl
                    rcases hh with hh | ⟨L, hL, hf⟩
                    · exact (hR.own _ _ how).2.1 hh
                    · rw [how] at hL; cases hL; exact hf
                  rw [List.getElem?_append_left (by rw [List.length_set]; exact hR.zlt hz), set_ne hne]
              · have := VT.o (L := .res) k3 (by simp [hrl]) (k4 rfl) hm
                rw [List.length_append] at this
                exact this
        · cases hh
    · cases hh
  · -- to what may be written
    rename_i ag' b o n k' f
    obtain ⟨a, ha, hf, hag', rfl⟩ := (hx.not2 rfl).rs_inv
    split at hh
    · rename_i hk
      subst hk
      split at hh
      · rename_i r lo op hb
        obtain ⟨a', r', lo', op', q1, q2, q3, q4, q5, q6⟩ := hR.obj _ _ _ _ hb
        rw [ha] at q1; cases q1
        have hcl := cells_cls (b := b) q5 q6
        split at hh
        · rename_i hc
          have hnk : ∀ e ∈ new, (cellsV e).length = k' := fun e he => by simpa using (List.all_eq_true.1 hc.2.2.2.2) e he
          have hl := flat_length (k := k') hnk
          have hA : appendA k' by_ (.slice (some ⟨a, o, none⟩) n (2 * k' + f)) yw as = if new.length = 0 then some (.slice (some ⟨a, o, none⟩) n (2 * k' + f), as)
              else if f = 1 then some (sl as.σ.length 0 (n + new.length) k' 0, ⟨as.σ ++ [.arr ((r'.drop o).take (n * k') ++ cs) 0 true], as.ev⟩)
              else if op' = true ∧ o + n * k' = r'.length ∧ lo' ≤ o + n * k' then some (sl as.σ.length 0 (n + new.length) k' 0, ⟨as.σ.set a (.arr r' lo' false) ++ [.arr ((r'.drop o).take (n * k') ++ cs) (n * k') true], as.ev⟩) else none := by
            simp only [appendA, h1, h2, Option.bind_some, (half_k hf).1, (half_k hf).2, if_true, q2]
            rw [if_pos ⟨by omega, hc.2.1, hc.2.2.1⟩]
          have hrow : All2 s.R (((r.drop o).take (n * k')).map cls ++ flat new) ((r'.drop o).take (n * k') ++ cs) := by
            refine All2.append ?_ h3
            rw [List.map_take, List.map_drop]
            exact (hcl.drop o).take _
          split at hh
          · rename_i h0
            simp only [Option.some.injEq, Prod.mk.injEq] at hh
            obtain ⟨rfl, rfl⟩ := hh
            exact ⟨⟨_, as, s, by rw [hA, if_pos h0], hR, Ex.refl _ _ _ _, hx, rfl⟩, .inr trivial⟩
          · rename_i h0
            split at hh
            · rename_i hf1
              simp only [Option.some.injEq, Prod.mk.injEq] at hh
              obtain ⟨rfl, rfl⟩ := hh
              obtain ⟨s1, k1, k2, k3, k4, k5, k6⟩ := rel_new hR 0 0 (Nat.le_refl _) (Nat.zero_le _) hrow
              exact ⟨⟨_, ⟨_, as.ev⟩, s1, by rw [hA, if_neg h0, if_pos hf1]; rfl, k1, k2.ws (by simp), .c (.rs k3 (by decide) hag'), rfl⟩, .inr trivial⟩
            · rename_i hf1
              split at hh
              · rename_i hop
                simp only [Option.some.injEq, Prod.mk.injEq] at hh
                obtain ⟨rfl, rfl⟩ := hh
                obtain ⟨rfl, hlo⟩ := q3 hop.1
                have hza : ∀ a2 r2, s.z a2 = some r2 → a2 ≠ a := fun a2 r2 hz he => by
                  subst he
                  obtain ⟨c2, lo2, k⟩ := hR.zi _ _ _ hz ha
                  rw [hb] at k; cases k; exact absurd hop.1 (by simp)
                have hR0 : Rel s (vs.σ.set b (.arr r lo false)) (as.σ.set a (.arr r' lo' false)) := by
                  refine ⟨fun b' hb' => hR.dom b' (by simpa using hb'), hR.inj, ?_, ?_, ?_, ?_, hR.litz⟩
                  · intro b' c1 lo1 op1 hb'
                    rcases set_inv hb' with ⟨rfl, e⟩ | ⟨hne, e⟩
                    · cases e
                      exact ⟨a, r', lo', false, ha, set_self q2, fun h => by simp at h, q4, q5, q6⟩
                    · obtain ⟨a2, c2, lo2, op2, p1, p2, p3, p4, p5, p6⟩ := hR.obj _ _ _ _ e
                      have hne2 : a2 ≠ a := fun he => hne (hR.inj _ _ _ p1 (by rw [he]; exact ha))
                      exact ⟨a2, c2, lo2, op2, p1, by rw [set_ne hne2]; exact p2, p3, p4, p5, p6⟩
                  · intro a2 r2 hz
                    obtain ⟨lo2, op2, p1, p2⟩ := hR.zrow _ _ hz
                    exact ⟨lo2, op2, by rw [set_ne (hza _ _ hz)]; exact p1, p2⟩
                  · intro a2 r2 b2 hz hb2
                    by_cases hbb : b2 = b
                    · subst hbb; exact ⟨_, _, set_self hb⟩
                    · obtain ⟨c2, lo2, p⟩ := hR.zi _ _ _ hz hb2
                      exact ⟨c2, lo2, by rw [set_ne hbb]; exact p⟩
                  · intro a2 L hL
                    obtain ⟨⟨r2, lo2, p1, p2, p3⟩, p4, p5⟩ := hR.own _ _ hL
                    exact ⟨⟨r2, lo2, p1, by rw [set_ne (hza _ _ p1)]; exact p2, p3⟩, p4, p5⟩
                obtain ⟨s1, k1, k2, k3, k4, k5, k6⟩ := rel_new hR0 (n * k') (n * k') (Nat.le_refl _) (by simp; omega) hrow
                rw [List.length_set, List.length_set] at k3
                refine ⟨⟨_, ⟨_, as.ev⟩, s1, by rw [hA, if_neg h0, if_neg hf1, if_pos ⟨rfl, by omega, by omega⟩]; rfl, k1, ?_, .c (.rs k3 (by decide) hag'), rfl⟩, .inr trivial⟩
                refine ⟨k2.z, k2.lit, fun b' hb' => k2.ι b' (by simpa using hb'), by simp, by simp, k2.ow, fun b' a2 hb' ha2 => ?_, fun a2 r2 hz hh => ?_⟩
                · simp only [wsOf, List.mem_singleton] at hb'
                  have hne : a2 ≠ a := fun he => hb' (hR.inj _ _ _ ha2 (by rw [he]; exact ha))
                  rw [List.getElem?_append_left (by rw [List.length_set]; exact hR.alt ha2), set_ne hne]
                · rw [List.getElem?_append_left (by rw [List.length_set]; exact hR.zlt hz), set_ne (hza _ _ hz)]
              · cases hh
        · cases hh
      · cases hh
    · cases hh
  · cases hh

theorem cpy_sim {vs vs1 : VS} {as : S} (hR : Rel s vs.σ as.σ) {ag : Bool} {h h' k : Nat} {x y v : VV} {xw yw : Value} (hh : cpyV ag h k x y vs = some (v, vs1)) (hx : s.R x xw) (hy : s.R y yw) :
    ∃ w as1 s1, copyA h' k xw yw as = some (w, as1) ∧ Rel s1 vs1.σ as1.σ ∧ Ex Loc.fix s vs.σ as.σ s1 vs1.σ as1.σ (wsOf x) ∧ s1.R v w ∧
      ((vs1 = vs ∧ wsOf x = []) ∨ (∃ ag b o n k f, x = .rs ag b o n k f ∧ vs1 = ⟨vs.σ, vs.ev, wrU h b vs.wr⟩) ∨ ∃ ag b o n k f c lo xs, x = .rs ag b o n k f ∧ vs.σ[b]? = some (.arr c lo true) ∧ vs1 = ⟨vs.σ.set b (.arr (setV c o xs) lo true), evU h b xs vs.ev, wrU h b vs.wr⟩) := by
  unfold cpyV at hh
  split at hh
  case isFalse => cases hh
  rename_i hagk
  obtain ⟨hagk, hk0⟩ := hagk
  simp only [Option.bind_eq_some_iff] at hh
  obtain ⟨new, hnew, hh⟩ := hh
  obtain ⟨cs, h1, h2, h3⟩ := elems_sim hR hagk hnew hy
  split at hh
  · obtain ⟨rfl, _⟩ := hx.p_inv
    simp only [Option.some.injEq, Prod.mk.injEq] at hh
    obtain ⟨rfl, rfl⟩ := hh
    refine ⟨.int .i64 0, as, s, ?_, hR, Ex.refl _ _ _ _, .p rfl, .inl ⟨rfl, rfl⟩⟩
    simp only [copyA, h1, h2, Option.bind_some]
  · rename_i ag' b o n k' f
    obtain ⟨a, ha, hf, hag', rfl⟩ := hx.rs_inv
    split at hh
    · rename_i hc
      obtain ⟨rfl, hc⟩ := hc
      have hnk : ∀ e ∈ new, (cellsV e).length = k' := fun e he => by simpa using (List.all_eq_true.1 hc) e he
      have hA : copyA h' k' (.slice (some ⟨a, o, none⟩) n (2 * k' + f)) yw as = if min new.length n = 0 then some (.int .i64 0, as) else (stn h' as (cs.take (min new.length n * k')) (Ab.ptr a o)).map fun s' => (.int .i64 (min new.length n : Nat), s') := by
        simp only [copyA, h1, h2, Option.bind_some, (half_k hf).1, if_true]
      split at hh
      · rename_i h0
        simp only [Option.some.injEq, Prod.mk.injEq] at hh
        obtain ⟨rfl, rfl⟩ := hh
        exact ⟨_, as, s, by rw [hA, if_pos h0], hR, Ex.refl _ _ _ _, .p rfl, .inr (.inl ⟨_, _, _, _, _, _, rfl, rfl⟩)⟩
      · rename_i h0
        simp only [Option.map_eq_some_iff, Prod.mk.injEq] at hh
        obtain ⟨vs2, hst, rfl, rfl⟩ := hh
        have htk : flat (new.take (min new.length n)) = (flat new).take (min new.length n * k') := flat_take hnk _
        rw [htk] at hst
        obtain ⟨as1, s1, k1, k2, k3, k4, k5, k6, k7, b', o', c, lo, k8, k9, k10, _⟩ := stn_simV (h' := h') hR hst (.ptr ha) (.inl (h3.take _))
        cases k8
        refine ⟨_, as1, s1, by rw [hA, if_neg h0]; simp only [Ab.ptr, k1]; rfl, k2, k3, .p rfl, .inr (.inr ⟨_, b, o, _, _, _, c, lo, _, rfl, k9, k10⟩)⟩
    · cases hh
  · cases hh
end
end Go.Vm
