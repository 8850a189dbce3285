/-
  The operations of the machine of values, in the abstract machine: slices of slices, elements.
-/
import Derived.Test.YtkpamaplmjlagaaVOps2
namespace Go.Vm
open Go Go.Ab
set_option linter.unusedVariables false

section
variable {P : Program} {s : St} {σ : List VObj} {α : List AObj}
variable {ι : Nat → Option Nat} {z : Nat → Option (List Value)} {lit : Nat → Prop}

theorem isC_cls (v : VV) : isC (cls v) = isC v := by unfold cls; split <;> rfl
theorem simpleV_cls (v : VV) : simpleV (cls v) = simpleV v := by unfold cls; split <;> rfl
theorem simple_isC {v : VV} (h : simpleV v = true) : isC v = true := by cases v <;> first | rfl | cases h
theorem chunk_spec {ag : Bool} {k : Nat} : ∀ (n : Nat) (cs : List VV), (ag = true ∨ (k = 1 ∧ cs.all isC = true)) → n * k ≤ cs.length →
    flat (chunk ag k n cs) = cs.take (n * k) ∧ (chunk ag k n cs).length = n ∧ ∀ e ∈ chunk ag k n cs, (cellsV e).length = k
  | 0, cs, _, _ => by simp [chunk, flat]
  | n + 1, cs, ha, hl => by
    rw [Nat.add_mul] at hl
    obtain ⟨h1, h2, h3⟩ := chunk_spec n (cs.drop k) (ha.imp_right fun h => ⟨h.1, List.all_eq_true.2 fun x hx => (List.all_eq_true.1 h.2) x (List.mem_of_mem_drop hx)⟩) (by simp; omega)
    have key : cellsV (if ag then VV.agg (cs.take k) else cs.headD undefV) = cs.take k := by
      rcases ha with rfl | ⟨rfl, ha⟩
      · rfl
      · cases ag with
        | true => rfl
        | false =>
          cases cs with
          | nil => simp at hl
          | cons x cs =>
            simp at ha
            simp [VR.of_cell ha.1]
    simp only [chunk, flat_cons, List.length_cons, h2, List.mem_cons, true_and]
    refine ⟨?_, fun e he => ?_⟩
    · rw [key, h1, show (n + 1) * k = k + n * k by rw [Nat.add_mul]; omega, List.take_add]
    · rcases he with rfl | he
      · rw [key]; simp; omega
      · exact h3 e he

theorem sub_sl {f' k a o l m c : Nat} {es : List VV} {r : List Value} (hz : z a = some r) (hl : o + es.length * k ≤ r.length) (hk : k ≠ 0) (hlen : ∀ (i : Nat) (e : VV), es[i]? = some e → (cellsV e).length = k)
    (hes : ∀ (i : Nat) (e : VV) (j : Nat) (x : VV) (w : Value), es[i]? = some e → (cellsV e)[j]? = some x → r[o + i * k + j]? = some w → VR ι z lit x w) (h1 : l ≤ m) (h2 : m ≤ es.length) (hc : c < 2) (hf : f' = 0 ∨ (f' = 1 ∧ c = 1 ∧ lit a) ∨ (f' = 3 ∧ c = 1)) :
    VR ι z lit (.sl f' k ((es.drop l).take (m - l))) (.slice (some ⟨a, o + l * k, none⟩) (m - l) (2 * k + c)) := by
  have hle : ((es.drop l).take (m - l)).length = m - l := by simp; omega
  have hg : ∀ (i : Nat) (e : VV), ((es.drop l).take (m - l))[i]? = some e → es[l + i]? = some e := by
    intro i e he
    rw [List.getElem?_take] at he
    split at he
    · rwa [List.getElem?_drop] at he
    · cases he
  have := VR.sl (ι := ι) (z := z) (lit := lit) (f := f') (k := k) (es := (es.drop l).take (m - l)) (a := a) (o := o + l * k) (c := c) (r := r) hz ?_ hc hf hk (fun i e he => hlen _ _ (hg i e he)) (fun i e j x w he hx hw => hes (l + i) e j x w (hg i e he) hx ?_)
  · rwa [hle] at this
  · rw [hle]
    have : m * k ≤ es.length * k := Nat.mul_le_mul_right k h2
    have : (m - l) * k + l * k = m * k := by rw [← Nat.add_mul]; congr 1; omega
    omega
  · rw [show o + (l + i) * k + j = o + l * k + i * k + j by rw [Nat.add_mul]; omega]; exact hw

theorem slSl_sim {size : Nat} {lo hi mx : Option VV} {low hiw mxw : Option Value} {x v : VV} {xw : Value} (h : slSl size lo hi mx x = some v) (hx : VR ι z lit x xw) (h1 : OptR (VR ι z lit) lo low) (h2 : OptR (VR ι z lit) hi hiw) (h3 : OptR (VR ι z lit) mx mxw) :
    ∃ w, sliceSl size low hiw mxw xw = some w ∧ VR ι z lit v w := by
  unfold slSl at h
  split at h
  · rename_i ag b o n k f
    obtain ⟨a, ha, hf, hag, rfl⟩ := hx.rs_inv
    split at h
    · rename_i hk
      subst hk
      simp only [Option.bind_eq_some_iff] at h
      obtain ⟨l, hl, hh, hhe, h⟩ := h
      simp only [sliceSl, (half_k hf).1, (half_k hf).2, if_true, bnd_simV hl h1, bnd_simV hhe h2, Option.bind_some]
      cases mx with
      | some m =>
        cases mxw with
        | none => exact h3.elim
        | some mw =>
          simp only [Option.bind_eq_some_iff] at h
          obtain ⟨mm, hm, h⟩ := h
          split at h
          · rename_i hb
            cases h
            simp only [bnd_simV (lit := lit) (ι := ι) (z := z) hm h3, Option.bind_some]
            rw [if_pos ⟨hb.1, hb.2.1, hb.2.2.1, by rw [OptR.some_iff h2]; exact hb.2.2.2⟩]
            exact ⟨_, rfl, .rs ha (by split <;> omega) hag⟩
          · cases h
      | none =>
        cases mxw with
        | some mw => exact h3.elim
        | none =>
          simp only at h ⊢
          split at h
          · rename_i hb
            cases h
            rw [if_pos hb]
            exact ⟨_, rfl, .rs ha (by split <;> omega) hag⟩
          · cases h
    · cases h
  · rename_i f k es
    obtain ⟨a, o, c, r, g1, rfl, g2, g3, g4, g5, g6, g7⟩ := hx.sl_inv
    split at h
    · rename_i hk
      subst hk
      simp only [Option.bind_eq_some_iff] at h
      obtain ⟨l, hl, hh, hhe, h⟩ := h
      simp only [sliceSl, (half_k g3).1, (half_k g3).2, if_true, bnd_simV hl h1, bnd_simV hhe h2, Option.bind_some]
      cases mx with
      | some m =>
        cases mxw with
        | none => exact h3.elim
        | some mw =>
          simp only [Option.bind_eq_some_iff] at h
          obtain ⟨mm, hm, h⟩ := h
          split at h
          · rename_i hb
            cases h
            simp only [bnd_simV (lit := lit) (ι := ι) (z := z) hm h3, Option.bind_some]
            rw [if_pos ⟨hb.1, hb.2.1, hb.2.2.1, by rw [OptR.some_iff h2]; exact hb.2.2.2⟩]
            refine ⟨_, rfl, ?_⟩
            have hc' : (if hh = mm then 1 else 0) < 2 := by split <;> omega
            refine sub_sl g1 g2 g5 g6 g7 hb.1 (by omega) hc' ?_
            split
            · split
              · rename_i hf1; subst hf1
                rcases g4 with h | ⟨_, _, h⟩ | ⟨h, _⟩ <;> first | omega | exact .inr (.inl ⟨rfl, rfl, h⟩)
              · exact .inr (.inr ⟨rfl, rfl⟩)
            · exact .inl rfl
          · cases h
      | none =>
        cases mxw with
        | some mw => exact h3.elim
        | none =>
          simp only at h ⊢
          split at h
          · rename_i hb
            cases h
            rw [if_pos hb]
            refine ⟨_, rfl, ?_⟩
            refine sub_sl g1 g2 g5 g6 g7 hb.1 (by omega) (by split <;> omega) ?_
            split
            · rename_i hle
              rcases g4 with rfl | ⟨rfl, rfl, h⟩ | ⟨rfl, rfl⟩
              · exact .inl rfl
              · exact .inr (.inl ⟨rfl, by simp [hle], h⟩)
              · exact .inr (.inr ⟨rfl, by simp [hle]⟩)
            · exact .inl rfl
          · cases h
    · cases h
  · obtain ⟨rfl, hp⟩ := hx.p_inv
    simp only [Option.bind_eq_some_iff] at h
    obtain ⟨l, hl, hh, hhe, m, hm, h⟩ := h
    split at h
    · rename_i hb
      cases h
      refine ⟨nils, ?_, .p rfl⟩
      simp only [sliceSl, bnd_simV hl h1, bnd_simV hhe h2, bnd_simV hm h3, Option.bind_some]
      rw [if_pos ⟨hb.1, hb.2.1, hb.2.2.1, by rw [OptR.none_iff h2, OptR.none_iff h3]; exact hb.2.2.2⟩]
    · cases h
  · cases h

/-- An array that is written no more is a row of values. -/
theorem rel_seal (hR : Rel s σ α) {b a : Nat} {c : List VV} {lo : Nat} {op : Bool} (hb : σ[b]? = some (.arr c lo op)) (ha : s.ι b = some a) (hs : c.all simpleV = true) :
    ∃ s1 c', Rel s1 (σ.set b (.arr (c.map cls) lo false)) α ∧ Ex Loc.fix s σ α s1 (σ.set b (.arr (c.map cls) lo false)) α [] ∧ s1.z a = some c' ∧ s1.lit a ∧ All2 s.R (c.map cls) c' ∧ (∃ lo' op', α[a]? = some (.arr c' lo' op')) ∧ s1.ι = s.ι ∧ s1.ow = s.ow := by
  obtain ⟨a', c', lo', op', g1, g2, g3, g3', g4, g5⟩ := hR.obj _ _ _ _ hb
  rw [ha] at g1; cases g1
  have hcl := cells_cls g4 g5
  let s1 : St := { s with z := fun a' => if a' = a then some c' else s.z a', lit := fun a' => a' = a ∨ s.lit a' }
  have hz1 : ∀ a2 r, s.z a2 = some r → s1.z a2 = some r := fun a2 r hz => by
    simp only [s1]
    by_cases h : a2 = a
    · subst h
      obtain ⟨lo2, op2, k1, _⟩ := hR.zrow _ _ hz
      rw [g2] at k1; cases k1; rw [if_pos rfl]
    · rw [if_neg h]; exact hz
  have hR1 : ∀ {u : VV} {w : Value}, s.R u w → s1.R u w := fun hu => VR.mono (fun _ _ h => h) hz1 (fun _ h => .inr h) hu
  have hvo : ∀ {L : Loc} {u : VV} {w : Value}, VT s L u w → VT s1 L u w := by
    intro L u w hu
    cases hu with
    | c h => exact .c (hR1 h)
    | o hz he how h => exact .o (hz1 _ _ hz) he how (hR1 h)
  have hrefl : c'.all refl1 = true := by
    rw [List.all_eq_true]
    intro w hw
    obtain ⟨j, hj⟩ := List.getElem?_of_mem hw
    have hjl := getlt hj
    have hcj : (c.map cls)[j]? = some (cls (c[j]'(by omega))) := by simp [List.getElem?_eq_getElem (show j < c.length by omega)]
    exact simple_refl (hcl.2 j _ w hcj hj) (by rw [simpleV_cls]; exact (List.all_eq_true.1 hs) _ (List.getElem_mem _))
  refine ⟨s1, c', ⟨fun b' hb' => hR.dom b' (by simpa using hb'), hR.inj, ?_, ?_, ?_, ?_, ?_⟩, ⟨hz1, fun _ h => .inr h, fun _ _ => rfl, by simp, Nat.le_refl _, fun _ _ h _ => h, fun _ _ _ _ => rfl, fun _ _ _ _ => rfl⟩, by simp [s1], .inl rfl, hcl, ⟨lo', op', g2⟩, rfl, rfl⟩
  · intro b' c1 lo1 op1 hb'
    rcases set_inv hb' with ⟨rfl, h1⟩ | ⟨h0, h1⟩
    · cases h1
      exact ⟨a, c', lo', op', ha, g2, fun h => by simp at h, by simpa using g3', by simpa using g4, fun j y w hy hw => .c (hR1 (hcl.2 j y w hy hw))⟩
    · obtain ⟨a2, c2, lo2, op2, k1, k2, k3, k4, k5, k6⟩ := hR.obj _ _ _ _ h1
      exact ⟨a2, c2, lo2, op2, k1, k2, k3, k4, k5, fun j y w hy hw => hvo (k6 j y w hy hw)⟩
  · intro a2 r hz
    simp only [s1] at hz
    split at hz
    · cases hz; subst a2; exact ⟨lo', op', g2, hrefl⟩
    · exact hR.zrow _ _ hz
  · intro a2 r b2 hz hb2
    by_cases h : b2 = b
    · subst h; exact ⟨_, _, set_self hb⟩
    · have hne : a2 ≠ a := fun he => h (hR.inj _ _ _ (show s.ι b2 = some a2 from hb2) (by rw [he]; exact ha))
      simp only [s1] at hz
      rw [if_neg hne] at hz
      obtain ⟨c2, lo2, k⟩ := hR.zi _ _ _ hz hb2
      exact ⟨c2, lo2, by rw [set_ne h]; exact k⟩
  · intro a2 L hL
    obtain ⟨⟨r, lo2, k1, k2, k3⟩, k4, k5⟩ := hR.own a2 L hL
    refine ⟨⟨r, lo2, hz1 _ _ k1, k2, k3⟩, ?_, k5⟩
    rintro (rfl | h)
    · exact k5 b ha
    · exact k4 h
  · rintro a2 (rfl | h)
    · exact ⟨c', by simp [s1]⟩
    · obtain ⟨r, hr⟩ := hR.litz _ h
      exact ⟨r, hz1 _ _ hr⟩

theorem slArrF_sim {vs vs1 : VS} {as : S} (hR : Rel s vs.σ as.σ) {ag : Bool} {n size : Nat} {lo hi : Option VV} {low hiw : Option Value} {x v : VV} {xw : Value} (h : slArrF ag n size vs lo hi x = some (v, vs1)) (hx : s.R x xw) (h1 : OptR s.R lo low) (h2 : OptR s.R hi hiw) :
    ∃ w s1, sliceArr n size as low hiw none xw = some w ∧ Rel s1 vs1.σ as.σ ∧ Ex Loc.fix s vs.σ as.σ s1 vs1.σ as.σ [] ∧ s1.R v w ∧ s1.ow = s.ow ∧ vs1.ev = vs.ev ∧ vs1.wr = vs.wr ∧
      ∃ b c lo op, vs.σ[b]? = some (.arr c lo op) ∧ vs1.σ = vs.σ.set b (.arr (c.map cls) lo false) := by
  unfold slArrF at h
  split at h
  · rename_i b o
    obtain ⟨a, ha, rfl⟩ := hx.ptr_inv
    split at h
    · rename_i c l0 op hb
      simp only [Option.bind_eq_some_iff] at h
      obtain ⟨l, hl, hh, hhe, h⟩ := h
      split at h
      · rename_i hbd
        simp only [Option.some.injEq, Prod.mk.injEq] at h
        obtain ⟨rfl, rfl⟩ := h
        obtain ⟨s1, c', k1, k2, k3, k4, k5, ⟨lo', op', k6⟩, k7, k8⟩ := rel_seal hR hb ha hbd.2.2.2.2.1
        have hlen := k5.1
        simp at hlen
        have hmul : (hh - l) * size + l * size = hh * size := by rw [← Nat.add_mul]; congr 1; omega
        have hmul2 : hh * size ≤ n * size := Nat.mul_le_mul_right size hbd.2.1
        obtain ⟨q1, q2, q3⟩ := chunk_spec (ag := ag) (k := size) (hh - l) ((c.drop (o + l * size)).map cls) (hbd.2.2.2.2.2.imp_right fun h => ⟨h, by
          rw [List.all_eq_true]
          intro x hx
          rw [List.mem_map] at hx
          obtain ⟨y, hy, rfl⟩ := hx
          rw [isC_cls]
          exact simple_isC ((List.all_eq_true.1 hbd.2.2.2.2.1) _ (List.mem_of_mem_drop hy))⟩) (by simp; omega)
        have hex : ∀ {u : VV} {w : Value}, s.R u w → s1.R u w := fun hu => VR.mono (fun _ _ h => by rw [k7]; exact h) k2.z k2.lit hu
        refine ⟨.slice (some ⟨a, o + l * size, none⟩) (hh - l) (2 * size + if hh = n then 1 else 0), s1, ?_, k1, k2, ?_, k8, rfl, rfl, b, c, l0, op, hb, rfl⟩
        · have hbn : bnd n none = some n := rfl
          simp only [sliceArr, row_of k6, Option.bind_some, bnd_simV hl h1, bnd_simV hhe h2, hbn]
          rw [if_pos ⟨hbd.1, hbd.2.1, Nat.le_refl _, by omega, by simp⟩]; rfl
        · have hm := sl_mk (ι := s1.ι) (z := s1.z) (lit := s1.lit) (f := if hh = n then 1 else 0) (k := size) (a := a) (o := o + l * size) (c := if hh = n then 1 else 0) (es := chunk ag size (hh - l) ((c.drop (o + l * size)).map cls)) (r := c') k3 (by rw [q2]; omega) (by split <;> omega) (by split <;> simp [k4]) hbd.2.2.2.1 q3 (by
            rw [q1, q2, List.map_drop]
            exact ((k5.imp fun x w _ h => hex h).drop (o + l * size)).take ((hh - l) * size))
          rw [q2] at hm
          exact hm
      · cases h
    · cases h
  · cases h
theorem slice_simV {vs vs1 : VS} {as : S} (hR : Rel s vs.σ as.σ) {alt : Bool} {t : TypeId} {lo hi mx : Option VV} {low hiw mxw : Option Value} {x v : VV} {xw : Value} (h : sliceVV P alt t vs x lo hi mx = some (v, vs1)) (hx : s.R x xw) (h1 : OptR s.R lo low) (h2 : OptR s.R hi hiw) (h3 : OptR s.R mx mxw) :
    ∃ w s1, pSlice P t as xw low hiw mxw = some w ∧ Rel s1 vs1.σ as.σ ∧ Ex Loc.fix s vs.σ as.σ s1 vs1.σ as.σ [] ∧ s1.R v w ∧ s1.ow = s.ow ∧ vs1.ev = vs.ev ∧ vs1.wr = vs.wr ∧
      (vs1.σ = vs.σ ∨ ∃ b c lo op, vs.σ[b]? = some (.arr c lo op) ∧ vs1.σ = vs.σ.set b (.arr (c.map cls) lo false)) := by
  unfold sliceVV at h
  unfold pSlice
  split at h
  · rename_i n e hu
    rw [hu]
    simp only [Option.bind_eq_some_iff] at h ⊢
    obtain ⟨ag, g1, sz, g2, h⟩ := h
    cases alt with
    | true =>
      simp only [if_true] at h
      split at h
      · rename_i hmx
        have : mxw = none := by have := OptR.none_iff h3; rw [hmx] at this; simpa using this
        subst this
        obtain ⟨w, s1, k1, k2, k3, k4, k5, k6, k7, k8⟩ := slArrF_sim hR h hx h1 h2
        exact ⟨w, s1, ⟨sz, g2, k1⟩, k2, k3, k4, k5, k6, k7, .inr k8⟩
      · cases h
    | false =>
      simp only [Bool.false_eq_true, if_false, Option.map_eq_some_iff] at h
      obtain ⟨u, h, he⟩ := h
      simp only [Prod.mk.injEq] at he
      obtain ⟨rfl, rfl⟩ := he
      obtain ⟨w, k1, k2⟩ := slArr_sim hR h hx h1 h2 h3
      exact ⟨w, s, ⟨sz, g2, k1⟩, hR, Ex.refl _ _ _ _, k2, rfl, rfl, rfl, .inl rfl⟩
  · rename_i e hu
    rw [hu]
    simp only [Option.bind_eq_some_iff] at h ⊢
    obtain ⟨sz, g2, h⟩ := h
    simp only [Option.map_eq_some_iff] at h
    obtain ⟨u, h, he⟩ := h
    simp only [Prod.mk.injEq] at he
    obtain ⟨rfl, rfl⟩ := he
    obtain ⟨w, k1, k2⟩ := slSl_sim h hx h1 h2 h3
    exact ⟨w, s, ⟨sz, g2, k1⟩, hR, Ex.refl _ _ _ _, k2, rfl, rfl, rfl, .inl rfl⟩
  · rename_i hu
    rw [hu]
    simp only [Option.bind_eq_some_iff] at h
    obtain ⟨a, g1, h⟩ := h
    obtain ⟨rfl, _⟩ := toV_eq g1 hx
    have fin1 : ∀ {m : Option Value}, (m.map fun v => (ofV v, vs)) = some (v, vs1) → (∀ u, m = some u → plain u = true) → ∃ u, m = some u ∧ s.R v u ∧ vs1 = vs := by
      intro m hm hp
      simp only [Option.map_eq_some_iff, Prod.mk.injEq] at hm
      obtain ⟨u, h1, rfl, rfl⟩ := hm
      exact ⟨u, h1, VR_ofV (hp u h1), rfl⟩
    have qp : ∀ {b : Bool} {m : Sem Value} {u : Value}, (if b then quietP P m else none) = some u → plain u = true := by
      intro b m u hm
      split at hm
      · exact quietP_plain hm
      · cases hm
    have hmm : mxw.isNone = mx.isNone := OptR.none_iff h3
    cases lo with
    | none =>
      cases low with
      | some _ => exact h1.elim
      | none =>
        cases hi with
        | none =>
          cases hiw with
          | some _ => exact h2.elim
          | none =>
            simp only [Option.map_none] at h
            obtain ⟨u, k1, k2, rfl⟩ := fin1 h fun u => qp
            refine ⟨u, s, ?_, hR, Ex.refl _ _ _ _, k2, rfl, rfl, rfl, .inl rfl⟩
            simpa [Option.all, hmm] using k1
        | some hv =>
          cases hiw with
          | none => exact h2.elim
          | some hw =>
            simp only [Option.map_none, Option.map_some] at h
            cases hhv : toV hv with
            | none => rw [hhv] at h; cases h
            | some hh =>
              rw [hhv] at h
              obtain ⟨rfl, _⟩ := toV_eq hhv h2
              obtain ⟨u, k1, k2, rfl⟩ := fin1 h fun u => qp
              refine ⟨u, s, ?_, hR, Ex.refl _ _ _ _, k2, rfl, rfl, rfl, .inl rfl⟩
              simpa [Option.all, hmm] using k1
    | some lv =>
      cases low with
      | none => exact h1.elim
      | some lw =>
        cases hlv : toV lv with
        | none =>
          cases hi with
          | none => simp [hlv] at h
          | some hv => cases hh : toV hv <;> simp [hlv, hh] at h
        | some ll =>
          obtain ⟨rfl, _⟩ := toV_eq hlv h1
          cases hi with
          | none =>
            cases hiw with
            | some _ => exact h2.elim
            | none =>
              simp only [Option.map_none, Option.map_some, hlv] at h
              obtain ⟨u, k1, k2, rfl⟩ := fin1 h fun u => qp
              refine ⟨u, s, ?_, hR, Ex.refl _ _ _ _, k2, rfl, rfl, rfl, .inl rfl⟩
              simpa [Option.all, hmm] using k1
          | some hv =>
            cases hiw with
            | none => exact h2.elim
            | some hw =>
              simp only [Option.map_some, hlv] at h
              cases hhv : toV hv with
              | none => rw [hhv] at h; cases h
              | some hh =>
                rw [hhv] at h
                obtain ⟨rfl, _⟩ := toV_eq hhv h2
                obtain ⟨u, k1, k2, rfl⟩ := fin1 h fun u => qp
                refine ⟨u, s, ?_, hR, Ex.refl _ _ _ _, k2, rfl, rfl, rfl, .inl rfl⟩
                simpa [Option.all, hmm, and_assoc] using k1
  · cases h
end
end Go.Vm
