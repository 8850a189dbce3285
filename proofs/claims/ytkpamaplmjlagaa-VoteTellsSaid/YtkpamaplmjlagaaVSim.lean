/-
  The operations of code, from the machine of values to the abstract machine.
-/
import Derived.Test.YtkpamaplmjlagaaVOps5
namespace Go.Vm
open Go Go.Ab
set_option linter.unusedVariables false

def FrOk (s : St) (os : List Nat) (fr : VFr) (fr' : Fr) : Prop := ∀ t v, lkV t fr = some v → ∃ w, lk t fr' = some w ∧ VT s (.slot t) v w ∧ (os.contains t = false → s.R v w)
/-- Elder objects that are not listed lead nowhere new. -/
def EvOk (hb : Nat) (vs vs1 : VS) : Prop := vs.σ.length ≤ vs1.σ.length ∧ (∀ b ∈ vs.ev, b ∈ vs1.ev) ∧ ∀ b, b < hb → b < vs.σ.length → b ∉ vs1.ev → ∀ c1 lo1 op1, vs1.σ[b]? = some (.arr c1 lo1 op1) →
  ∃ c0 lo0 op0, vs.σ[b]? = some (.arr c0 lo0 op0) ∧ ∀ q : Nat → Bool, lowPL q c0 = true → (∀ j, j < b → q j = true) → lowPL q c1 = true
def WrOk (hb : Nat) (ws : List Nat) (vs vs1 : VS) : Prop := (∀ b ∈ ws, b < hb → b ∈ vs1.wr) ∧ ∀ b ∈ vs.wr, b ∈ vs1.wr
theorem EvOk.refl (hb : Nat) (vs : VS) : EvOk hb vs vs := ⟨Nat.le_refl _, fun _ h => h, fun b _ _ _ c1 lo1 op1 h => ⟨c1, lo1, op1, h, fun _ h _ => h⟩⟩
theorem EvOk.of_eq {hb : Nat} {vs vs1 : VS} (h1 : vs1.σ = vs.σ) (h2 : vs1.ev = vs.ev) : EvOk hb vs vs1 := ⟨by rw [h1]; exact Nat.le_refl _, by rw [h2]; exact fun _ h => h, fun b _ _ _ c1 lo1 op1 h => ⟨c1, lo1, op1, by rw [← h1]; exact h, fun _ h _ => h⟩⟩
theorem EvOk.trans {hb : Nat} {vs vs1 vs2 : VS} (h : EvOk hb vs vs1) (k : EvOk hb vs1 vs2) : EvOk hb vs vs2 := by
  refine ⟨Nat.le_trans h.1 k.1, fun b hb => k.2.1 b (h.2.1 b hb), fun b hb hl hn c2 lo2 op2 h2 => ?_⟩
  obtain ⟨c1, lo1, op1, h1, q1⟩ := k.2.2 b hb (Nat.lt_of_lt_of_le hl h.1) hn c2 lo2 op2 h2
  obtain ⟨c0, lo0, op0, h0, q0⟩ := h.2.2 b hb hl (fun hh => hn (k.2.1 b hh)) c1 lo1 op1 h1
  exact ⟨c0, lo0, op0, h0, fun q a b => q1 q (q0 q a b) b⟩
theorem EvOk.of_snoc {hb : Nat} {vs vs1 : VS} {o : VObj} (h1 : vs1.σ = vs.σ ++ [o]) (h2 : vs1.ev = vs.ev) : EvOk hb vs vs1 := by
  refine ⟨by rw [h1]; simp, by rw [h2]; exact fun _ h => h, fun b _ hl _ c1 lo1 op1 h => ⟨c1, lo1, op1, ?_, fun _ h _ => h⟩⟩
  rw [h1, List.getElem?_append_left hl] at h; exact h
theorem EvOk.of_set {hb b : Nat} {vs vs1 : VS} {c c' : List VV} {lo lo' : Nat} {op op' : Bool} (h0 : vs.σ[b]? = some (.arr c lo op)) (h1 : vs1.σ = vs.σ.set b (.arr c' lo' op')) (h2 : ∀ x ∈ vs.ev, x ∈ vs1.ev)
    (h3 : b < hb → b ∉ vs1.ev → ∀ q : Nat → Bool, lowPL q c = true → (∀ j, j < b → q j = true) → lowPL q c' = true) : EvOk hb vs vs1 := by
  refine ⟨by rw [h1]; simp, h2, fun b' hb' hl hn c1 lo1 op1 h => ?_⟩
  rw [h1] at h
  rcases set_inv h with ⟨rfl, e⟩ | ⟨hne, e⟩
  · cases e; exact ⟨c, lo, op, h0, h3 hb' hn⟩
  · exact ⟨c1, lo1, op1, e, fun _ h _ => h⟩
theorem WrOk.nil {hb : Nat} {vs vs1 : VS} (h : vs1.wr = vs.wr) : WrOk hb [] vs vs1 := ⟨fun b hb => by simp at hb, by rw [h]; exact fun _ h => h⟩
theorem WrOk.one {hb b : Nat} {vs vs1 : VS} (h : vs1.wr = wrU hb b vs.wr) : WrOk hb [b] vs vs1 := by
  refine ⟨fun x hx hl => ?_, fun x hx => ?_⟩ <;> rw [h] <;> unfold wrU <;> split
  · simp at hx; omega
  · simp at hx; simp [hx]
  · exact hx
  · simp [hx]
theorem lowP_cls {q : Nat → Bool} (v : VV) : lowP q (cls v) = lowP q v := by unfold cls; split <;> rfl
theorem lowPL_map_cls {q : Nat → Bool} : ∀ {l : List VV}, lowPL q (l.map cls) = lowPL q l
  | [] => rfl
  | x :: l => by simp only [List.map_cons, lowPL, lowP_cls, lowPL_map_cls (l := l)]
theorem lowPL_set {q : Nat → Bool} {l : List VV} {i : Nat} {v : VV} (h : lowPL q l = true) (hv : lowP q v = true) : lowPL q (l.set i v) = true := by
  rw [lowPL_iff] at h ⊢
  intro x hx
  rcases List.mem_or_eq_of_mem_set hx with h1 | rfl
  · exact h x h1
  · exact hv
theorem lowPL_setV {q : Nat → Bool} : ∀ {vs l : List VV} {o : Nat}, lowPL q l = true → lowPL q vs = true → lowPL q (setV l o vs) = true
  | [], l, o, h, _ => h
  | v :: vs, l, o, h, hv => by
    simp only [lowPL, Bool.and_eq_true] at hv
    exact lowPL_setV (l := l.set o v) (lowPL_set h hv.1) hv.2
theorem lowP_imp {q q' : Nat → Bool} (h : ∀ b, q b = true → q' b = true) : ∀ {v : VV}, lowP q v = true → lowP q' v = true := by
  intro v
  refine VV.rec (motive_1 := fun v => lowP q v = true → lowP q' v = true) (motive_2 := fun l => lowPL q l = true → lowPL q' l = true) ?_ ?_ ?_ ?_ ?_ ?_ ?_ ?_ ?_ ?_ v
  · intro _ _; rfl
  · intro b o hb; exact h b hb
  · intro ag b o n k f hb; exact h b hb
  · intro f k es ih hb; exact ih hb
  · intro v ih hb; exact ih hb
  · intro cs ih hb; exact ih hb
  · intro f a b ih1 ih2 hb
    simp only [lowP, Bool.and_eq_true] at hb ⊢
    exact ⟨ih1 hb.1, ih2 hb.2⟩
  · intro vs ih hb; exact ih hb
  · intro _; rfl
  · intro x l ih1 ih2 hb
    simp only [lowPL, Bool.and_eq_true] at hb ⊢
    exact ⟨ih1 hb.1, ih2 hb.2⟩
theorem lowPL_imp {q q' : Nat → Bool} (h : ∀ b, q b = true → q' b = true) {l : List VV} (k : lowPL q l = true) : lowPL q' l = true := by
  rw [lowPL_iff] at k ⊢; exact fun x hx => lowP_imp h (k x hx)
theorem evU_spec {hb b : Nat} {xs : List VV} {ev : List Nat} : (∀ x ∈ ev, x ∈ evU hb b xs ev) ∧ (b < hb → b ∉ evU hb b xs ev → lowL b xs = true) := by
  unfold evU
  split
  · rename_i h
    refine ⟨fun x h => h, fun hl _ => ?_⟩
    simp only [Bool.or_eq_true, decide_eq_true_eq] at h
    rcases h with h | h
    · omega
    · exact h
  · exact ⟨fun x h => by simp [h], fun _ hn => absurd (by simp) hn⟩
theorem EvOk.store {hb b o lo : Nat} {vs : VS} {c xs : List VV} {wr : List Nat} (h0 : vs.σ[b]? = some (.arr c lo true)) : EvOk hb vs ⟨vs.σ.set b (.arr (setV c o xs) lo true), evU hb b xs vs.ev, wr⟩ :=
  .of_set h0 rfl evU_spec.1 fun hl hn q hq hj => lowPL_setV hq (lowPL_imp (fun j hj' => hj j (by simpa using hj')) (evU_spec.2 hl hn))

section
variable {P : Program} {s : St} {os : List Nat} {fr : VFr} {fr' : Fr}

theorem FrOk.mono {F : Loc → Prop} {s1 : St} {σ σ1 : List VObj} {α α1 : List AObj} {ws : List Nat} (h : FrOk s os fr fr') (hR : Rel s σ α) (hE : Ex F s σ α s1 σ1 α1 ws) (hF : ∀ t, F (.slot t)) : FrOk s1 os fr fr' := by
  intro t v hv
  obtain ⟨w, h1, h2, h3⟩ := h t v hv
  refine ⟨w, h1, ?_, fun ho => hE.R hR (h3 ho)⟩
  cases h2 with
  | c h => exact .c (hE.R hR h)
  | o hz he how h => exact .o (hE.z _ _ hz) he (hE.ow _ _ how (hF t)) (hE.R hR h)

theorem opnd_simV (hF : FrOk s os fr fr') {x : Operand} {v : VV} (h : opndV os fr x = some v) : ∃ w, opnd fr' x = some w ∧ s.R v w := by
  cases x with
  | tmp t =>
    simp only [opndV, Option.map_eq_some_iff] at h
    obtain ⟨u, h1, h2⟩ := h
    obtain ⟨w, k1, k2, k3⟩ := hF t u h1
    refine ⟨w, k1, ?_⟩
    split at h2
    · subst h2; exact k2.cls
    · rename_i ho
      subst h2; exact k3 (by simpa using ho)
  | const u =>
    simp only [opndV] at h
    split at h
    · rename_i hp
      cases h
      exact ⟨u, by simp [opnd, hp], VR_ofV hp⟩
    · cases h
  | func f =>
    simp only [opndV, Option.some.injEq] at h
    subst h
    exact ⟨_, rfl, .fn rfl rfl (fun j x w hx => by simp at hx) (fun j x w hx => by simp at hx)⟩
  | «global» g => simp [opndV] at h
theorem opnds_simV (hF : FrOk s os fr fr') : ∀ {xs : List Operand} {vs : List VV}, opndsV os fr xs = some vs → ∃ ws, opnds fr' xs = some ws ∧ All2 s.R vs ws
  | [], vs, h => by simp only [opndsV, Option.some.injEq] at h; subst h; exact ⟨[], rfl, .nil⟩
  | x :: xs, vs, h => by
    simp only [opndsV, Option.bind_eq_some_iff, Option.some.injEq] at h
    obtain ⟨v, h1, vs', h2, rfl⟩ := h
    obtain ⟨w, k1, k2⟩ := opnd_simV hF h1
    obtain ⟨ws, k3, k4⟩ := opnds_simV hF h2
    exact ⟨w :: ws, by simp [opnds, k1, k3], .cons k2 k4⟩
theorem opndP_simV (hF : FrOk s os fr fr') : ∀ {xs : List (Nat × Operand)} {vs : List (Nat × VV)}, opndPV os fr xs = some vs → ∃ ws, opndP fr' xs = some ws ∧ PartsR s.R vs ws
  | [], vs, h => by simp only [opndPV, Option.some.injEq] at h; subst h; exact ⟨[], rfl, .nil⟩
  | (i, x) :: xs, vs, h => by
    simp only [opndPV, Option.bind_eq_some_iff, Option.some.injEq] at h
    obtain ⟨v, h1, vs', h2, rfl⟩ := h
    obtain ⟨w, k1, k2⟩ := opnd_simV hF h1
    obtain ⟨ws, k3, k4⟩ := opndP_simV hF h2
    exact ⟨(i, w) :: ws, by simp [opndP, k1, k3], .cons ⟨rfl, k2⟩ k4⟩
theorem opndO_simV (hF : FrOk s os fr fr') {x : Option Operand} {v : Option VV} (h : opndOV os fr x = some v) : ∃ w, opndO fr' x = some w ∧ OptR s.R v w := by
  cases x with
  | none => simp only [opndOV, Option.some.injEq] at h; subst h; exact ⟨none, rfl, trivial⟩
  | some x =>
    simp only [opndOV, Option.map_eq_some_iff] at h
    obtain ⟨u, h1, rfl⟩ := h
    obtain ⟨w, k1, k2⟩ := opnd_simV hF h1
    exact ⟨some w, by simp [opndO, k1], k2⟩
/-- A right is taken out of a slot. -/
theorem take_simV {σ : List VObj} {α : List AObj} (hR : Rel s σ α) (hF : FrOk s os fr fr') {x : Operand} {v : VV} {fr1 : VFr} (h : takeV os fr x = some (v, fr1)) :
    ∃ w s1, opnd fr' x = some w ∧ Rel s1 σ α ∧ Ex (· = .ext) s σ α s1 σ α [] ∧ FrOk s1 os fr1 fr' ∧ VT s1 .res v w ∧ s1.ι = s.ι ∧ s1.z = s.z ∧ s1.lit = s.lit := by
  cases x with
  | tmp t =>
    simp only [takeV] at h
    split at h
    · simp only [Option.map_eq_some_iff, Prod.mk.injEq] at h
      obtain ⟨u, h1, rfl, rfl⟩ := h
      obtain ⟨w, k1, k2, _⟩ := hF t u h1
      let s1 : St := { s with ow := fun a => if s.ow a = some (.slot t) then some .res else s.ow a }
      have o1 : ∀ a L, s.ow a = some L → L ≠ .slot t → s1.ow a = some L := fun a L hL hne => by simp only [s1]; rw [if_neg (by rw [hL]; exact fun h => hne (Option.some.inj h))]; exact hL
      have o2 : ∀ a L, s1.ow a = some L → ∃ L', s.ow a = some L' := fun a L hL => by
        simp only [s1] at hL
        split at hL
        · exact ⟨_, by assumption⟩
        · exact ⟨_, hL⟩
      have hvo : ∀ {L : Loc} {u : VV} {w : Value}, L ≠ .slot t → VT s L u w → VT s1 L u w := by
        intro L u w hL hu
        cases hu with
        | c h => exact .c h
        | o hz he how h => exact .o hz he (o1 _ _ how hL) h
      refine ⟨w, s1, k1, ?_, ⟨fun _ _ h => h, fun _ h => h, fun _ _ => rfl, Nat.le_refl _, Nat.le_refl _, fun a L hL hf => o1 a L hL (by subst hf; simp), fun _ _ _ _ => rfl, fun _ _ _ _ => rfl⟩, ?_, ?_, rfl, rfl, rfl⟩
      · refine ⟨hR.dom, hR.inj, fun b c lo op hb => ?_, hR.zrow, hR.zi, fun a L hL => ?_, hR.litz⟩
        · obtain ⟨a2, c2, lo2, op2, p1, p2, p3, p4, p5, p6⟩ := hR.obj _ _ _ _ hb
          exact ⟨a2, c2, lo2, op2, p1, p2, p3, p4, p5, fun j x w hx hw => hvo (by simp) (p6 j x w hx hw)⟩
        · obtain ⟨L', hL'⟩ := o2 a L hL
          exact hR.own a L' hL'
      · intro t' v' hv'
        simp only [lkV] at hv'
        split at hv'
        · rename_i he
          subst he
          cases hv'
          exact ⟨w, k1, .c k2.cls, fun _ => k2.cls⟩
        · rename_i hne
          obtain ⟨w', q1, q2, q3⟩ := hF t' v' hv'
          exact ⟨w', q1, hvo (fun h => hne (by cases h; rfl)) q2, q3⟩
      · cases k2 with
        | c h => exact .c h
        | o hz he how h => exact .o hz he (by simp only [s1]; rw [if_pos how]) h
    · cases h
  | _ => simp [takeV] at h

/-- What a call is held to. -/
def OrOk (C : VOracle) (C' : Oracle) : Prop := ∀ f args σ v vs1, C f args σ = some (v, vs1) → ∀ (s : St) (α : List AObj) ws, Rel s σ α → (∀ a L, s.ow a = some L → L = .ext ∨ ∃ b i, L = .cell b i) → All2 s.R args ws →
  ∃ w as1 s1, C' f ws α = some (w, as1) ∧ Rel s1 vs1.σ as1.σ ∧ Ex (· = .ext) s σ α s1 vs1.σ as1.σ vs1.wr ∧ VT s1 .res v w ∧ (∀ a L, s1.ow a = some L → L = .ext ∨ L = .res ∨ ∃ b i, L = .cell b i) ∧ EvOk σ.length ⟨σ, [], []⟩ vs1

theorem callF_simV {C : VOracle} {C' : Oracle} (hC : OrOk C C') {hb : Nat} {f : FuncId} {args : List VV} {vs : VS} {as : S} {r : VV × VS × List Nat} {ws : List Value} (h : callFV C hb f args vs = some r) (hR : Rel s vs.σ as.σ) (ha : All2 s.R args ws) :
    ∃ w as1 s1, callF C' f ws as = some (w, as1) ∧ Rel s1 r.2.1.σ as1.σ ∧ Ex Loc.fix s vs.σ as.σ s1 r.2.1.σ as1.σ r.2.2 ∧ VT s1 .res r.1 w ∧ EvOk hb vs r.2.1 ∧ WrOk hb r.2.2 vs r.2.1 := by
  unfold callFV at h
  simp only [Option.map_eq_some_iff] at h
  obtain ⟨⟨v, vs1⟩, h1, rfl⟩ := h
  let sc : St := { s with ow := fun a => match s.ow a with | some (.slot _) => some .ext | some .res => none | x => x }
  have c1 : ∀ a L, sc.ow a = some L → (∃ L', s.ow a = some L') ∧ (L = .ext ∨ ∃ b i, L = .cell b i) := by
    intro a L hL
    simp only [sc] at hL
    cases ho : s.ow a with
    | none => rw [ho] at hL; cases hL
    | some L' =>
      rw [ho] at hL
      refine ⟨⟨_, rfl⟩, ?_⟩
      cases L' with
      | slot t => cases hL; exact .inl rfl
      | res => cases hL
      | ext => cases hL; exact .inl rfl
      | cell b i => cases hL; exact .inr ⟨b, i, rfl⟩
  have hRc : Rel sc vs.σ as.σ := by
    refine ⟨hR.dom, hR.inj, fun b c lo op hb => ?_, hR.zrow, hR.zi, fun a L hL => ?_, hR.litz⟩
    · obtain ⟨a2, c2, lo2, op2, p1, p2, p3, p4, p5, p6⟩ := hR.obj _ _ _ _ hb
      refine ⟨a2, c2, lo2, op2, p1, p2, p3, p4, p5, fun j x w hx hw => ?_⟩
      have := p6 j x w hx hw
      cases this with
      | c h => exact .c h
      | o hz he how h => exact .o hz he (by simp only [sc, how]) h
    · obtain ⟨⟨L', hL'⟩, _⟩ := c1 a L hL
      exact hR.own a L' hL'
  obtain ⟨w, as1, s1, k1, k2, k3, k4, k5, k6⟩ := hC f args vs.σ v vs1 h1 sc as.σ ws hRc (fun a L hL => (c1 a L hL).2) ha
  let s2 : St := { s1 with ow := fun a => match s.ow a with | some (.slot t) => some (.slot t) | _ => s1.ow a }
  have hsl : ∀ a t, s.ow a = some (.slot t) → s1.ow a = some .ext := fun a t ht => k3.ow a .ext (by simp only [sc, ht]) rfl
  have o2 : ∀ a L, s1.ow a = some L → L ≠ .ext → s2.ow a = some L := by
    intro a L hL hne
    simp only [s2]
    split
    · rename_i t ht
      rw [hsl a t ht] at hL; cases hL; exact absurd rfl hne
    · exact hL
  have o3 : ∀ a L, s2.ow a = some L → ∃ L', s1.ow a = some L' := by
    intro a L hL
    simp only [s2] at hL
    split at hL
    · rename_i t ht; exact ⟨_, hsl a t ht⟩
    · exact ⟨_, hL⟩
  have hR2 : Rel s2 vs1.σ as1.σ := by
    refine ⟨k2.dom, k2.inj, fun b c lo op hb => ?_, k2.zrow, k2.zi, fun a L hL => ?_, k2.litz⟩
    · obtain ⟨a2, c2, lo2, op2, p1, p2, p3, p4, p5, p6⟩ := k2.obj _ _ _ _ hb
      refine ⟨a2, c2, lo2, op2, p1, p2, p3, p4, p5, fun j x w hx hw => ?_⟩
      have := p6 j x w hx hw
      cases this with
      | c h => exact .c h
      | o hz he how h => exact .o hz he (o2 _ _ how (by simp)) h
    · obtain ⟨L', hL'⟩ := o3 a L hL
      exact k2.own a L' hL'
  refine ⟨w, ⟨as1.σ, as.ev ++ as1.ev⟩, s2, by unfold callF; rw [k1]; rfl, hR2, ?_, ?_, ?_, ?_⟩
  · refine ⟨k3.z, k3.lit, k3.ι, k3.lenV, k3.lenA, fun a L hL hf => ?_, k3.keep, fun a r hz hl => k3.zobj a r hz (hl.imp_right fun ⟨L, h1, h2⟩ => ⟨.ext, ?_, rfl⟩)⟩
    · cases L with
      | slot t => simp only [s2, hL]
      | ext =>
        have := k3.ow a .ext (by simp only [sc, hL]) rfl
        simp only [s2, hL]; exact this
      | res => exact hf.elim
      | cell b i => exact hf.elim
    · cases L with
      | slot t => simp only [sc, h1]
      | ext => simp only [sc, h1]
      | res => exact h2.elim
      | cell b i => exact h2.elim
  · cases k4 with
    | c h => exact .c h
    | o hz he how h => exact .o hz he (o2 _ _ how (by simp)) h
  · refine ⟨k6.1, fun b hb' => by simp only [List.mem_append]; exact .inl hb', fun b hb' hl hn c1 lo1 op1 hc => ?_⟩
    simp only [List.mem_append, List.mem_filter, decide_eq_true_eq] at hn
    exact k6.2.2 b hl hl (fun hh => hn (.inr ⟨hh, hb'⟩)) c1 lo1 op1 hc
  · refine ⟨fun b hb' hl => ?_, fun b hb' => ?_⟩
    · simp only [List.mem_append, List.mem_filter, decide_eq_true_eq]; exact .inr ⟨hb', hl⟩
    · simp only [List.mem_append]; exact .inl hb'

theorem app_shape {alt ag : Bool} {h k by_ : Nat} {x y v : VV} {vs vs1 : VS} (hh : appV alt ag h k by_ x y vs = some (v, vs1)) : EvOk h vs vs1 ∧ WrOk h (wsOf x) vs vs1 := by
  unfold appV at hh
  split at hh
  case isFalse => cases hh
  simp only [Option.bind_eq_some_iff] at hh
  obtain ⟨new, hnew, hh⟩ := hh
  split at hh
  · split at hh
    · cases hh; exact ⟨.refl _ _, .nil rfl⟩
    · split at hh
      · split at hh <;> cases hh
        · exact ⟨.of_snoc rfl rfl, .nil rfl⟩
        · exact ⟨.refl _ _, .nil rfl⟩
      · cases hh
  · split at hh
    · split at hh
      · cases hh; exact ⟨.refl _ _, .nil rfl⟩
      · split at hh
        · split at hh
          · split at hh <;> cases hh
            exact ⟨.of_snoc rfl rfl, .nil rfl⟩
          · cases hh; exact ⟨.refl _ _, .nil rfl⟩
        · cases hh
    · cases hh
  · split at hh
    · split at hh
      · rename_i hb
        split at hh
        · split at hh
          · cases hh; exact ⟨.of_eq rfl rfl, .one rfl⟩
          · split at hh
            · cases hh; exact ⟨.of_snoc rfl rfl, .one rfl⟩
            · split at hh
              · cases hh
                refine ⟨EvOk.trans (vs1 := ⟨_, vs.ev, vs.wr⟩) (.of_set hb rfl (fun _ h => h) fun _ _ q hq _ => hq) (.of_snoc rfl rfl), .one rfl⟩
              · cases hh
        · cases hh
      · cases hh
    · cases hh
  · cases hh

def modeF (m : Mode) : Loc → Prop := fun L => if m.tk then L = .ext else L.fix
/-- What an operation has done, on both sides. -/
def OpDone {β : Type} (P : Program) (C' : Oracle) (h' hb : Nat) (os : List Nat) (m : Mode) (o : Oper) (s : St) (fr' : Fr) (vs : VS) (as : S) (k : K1V β) (out : β) : Prop :=
  ∃ v fr1 vs1 ws w as1 s1, k v fr1 vs1 ws = some out ∧ (∀ k' : K1, evalOp P C' h' o fr' as k' = k' w as1) ∧ Rel s1 vs1.σ as1.σ ∧ Ex (modeF m) s vs.σ as.σ s1 vs1.σ as1.σ ws ∧ FrOk s1 os fr1 fr' ∧ VT s1 .res v w ∧ (m.od = false → s1.R v w) ∧
    EvOk hb vs vs1 ∧ WrOk hb ws vs vs1
theorem fix_ext : ∀ L, L = Loc.ext → Loc.fix L := fun L h => by subst h; trivial
theorem fix_mode (m : Mode) : ∀ L, modeF m L → Loc.fix L := fun L h => by unfold modeF at h; split at h; exact fix_ext L h; exact h
theorem ext_mode {m : Mode} (h : m.tk = true) : ∀ L, modeF m L → L = .ext := fun L k => by unfold modeF at k; rw [h] at k; simpa using k

section
variable {β : Type} {C : VOracle} {C' : Oracle} {h' hb : Nat} {m : Mode} {o : Oper} {vs : VS} {as : S} {k : K1V β} {out : β}
theorem done_pure (hR : Rel s vs.σ as.σ) (hF : FrOk s os fr fr') {v : VV} {w : Value} (hk : k v fr vs [] = some out) (he : ∀ k' : K1, evalOp P C' h' o fr' as k' = k' w as) (hv : s.R v w) : OpDone P C' h' hb os m o s fr' vs as k out :=
  ⟨v, fr, vs, [], w, as, s, hk, he, hR, Ex.refl _ _ _ _, hF, .c hv, fun _ => hv, .refl _ _, .nil rfl⟩
theorem done_store (hR : Rel s vs.σ as.σ) (hF : FrOk s os fr fr') {v : VV} {w : Value} {vs1 : VS} {as1 : S} {s1 : St} {ws : List Nat} (hk : k v fr vs1 ws = some out) (he : ∀ k' : K1, evalOp P C' h' o fr' as k' = k' w as1) (hR1 : Rel s1 vs1.σ as1.σ)
    (hE : Ex Loc.fix s vs.σ as.σ s1 vs1.σ as1.σ ws) (hv : s1.R v w) (hev : EvOk hb vs vs1) (hwr : WrOk hb ws vs vs1) : OpDone P C' h' hb os m o s fr' vs as k out :=
  ⟨v, fr, vs1, ws, w, as1, s1, hk, he, hR1, hE.weaken (fix_mode m), hF.mono hR hE fun _ => trivial, .c hv, fun _ => hv, hev, hwr⟩

theorem evalOp_simV (hC : OrOk C C') (h : evalOpV P C hb os m o fr vs k = some out) (hR : Rel s vs.σ as.σ) (hF : FrOk s os fr fr') : OpDone P C' h' hb os m o s fr' vs as k out := by
  unfold evalOpV at h
  cases ho : o.op with
  | move x =>
    rw [ho] at h
    simp only at h
    cases htk : m.tk with
    | true =>
      rw [htk] at h
      cases hod : m.od with
      | true =>
        rw [hod] at h
        simp only [if_true, Option.bind_eq_some_iff] at h
        obtain ⟨r, h1, h⟩ := h
        obtain ⟨w, s1, k1, k2, k3, k4, k5, _⟩ := take_simV hR hF (fr1 := r.2) (v := r.1) h1
        exact ⟨_, _, vs, [], w, as, s1, h, fun k' => by unfold evalOp; rw [ho]; simp only [k1, Option.bind_some], k2, k3.weaken (ext_mode htk), k4, k5, fun hh => (Bool.false_ne_true (hh.symm.trans hod)).elim, .refl _ _, .nil rfl⟩
      | false => rw [hod] at h; simp at h
    | false =>
      rw [htk] at h
      simp only [Bool.false_eq_true, if_false, Option.bind_eq_some_iff] at h
      obtain ⟨v, h1, h⟩ := h
      obtain ⟨w, k1, k2⟩ := opnd_simV hF h1
      exact done_pure hR hF h (fun k' => by unfold evalOp; rw [ho]; simp only [k1, Option.bind_some]) k2
  | assign x =>
    rw [ho] at h
    simp only at h
    cases htk : m.tk with
    | true =>
      rw [htk] at h
      cases hod : m.od with
      | true =>
        rw [hod] at h
        simp only [if_true, Option.bind_eq_some_iff] at h
        obtain ⟨r, h1, h⟩ := h
        obtain ⟨w, s1, k1, k2, k3, k4, k5, _⟩ := take_simV hR hF (fr1 := r.2) (v := r.1) h1
        exact ⟨_, _, vs, [], w, as, s1, h, fun k' => by unfold evalOp; rw [ho]; simp only [k1, Option.bind_some], k2, k3.weaken (ext_mode htk), k4, k5, fun hh => (Bool.false_ne_true (hh.symm.trans hod)).elim, .refl _ _, .nil rfl⟩
      | false => rw [hod] at h; simp at h
    | false =>
      rw [htk] at h
      simp only [Bool.false_eq_true, if_false, Option.bind_eq_some_iff] at h
      obtain ⟨v, h1, h⟩ := h
      obtain ⟨w, k1, k2⟩ := opnd_simV hF h1
      exact done_pure hR hF h (fun k' => by unfold evalOp; rw [ho]; simp only [k1, Option.bind_some]) k2
  | pick c a b =>
    rw [ho] at h
    simp only [Option.bind_eq_some_iff] at h
    obtain ⟨cv, h1, v, h2, h⟩ := h
    obtain ⟨cw, k1, k2⟩ := opnd_simV hF h1
    obtain ⟨w, k3, k4⟩ := pick_simV h2 k2 (fun v hv => opnd_simV hF hv) (fun v hv => opnd_simV hF hv)
    exact done_pure hR hF h (fun k' => by unfold evalOp; rw [ho]; simp only [k1, k3, Option.bind_some]) k4
  | alloc t =>
    rw [ho] at h
    simp only [Option.bind_eq_some_iff] at h
    obtain ⟨zv, h1, r, h2, h⟩ := h
    obtain ⟨zw, k1, k2, _⟩ := zero_simV (ι := s.ι) (z := s.z) (lit := s.lit) h1
    unfold boxV at h2
    split at h2
    · rename_i hc
      cases h2
      obtain ⟨s1, q1, q2, q3, _⟩ := rel_new hR 0 0 (Nat.le_refl _) (Nat.zero_le _) k2.cells
      refine done_store hR hF (as1 := ⟨as.σ ++ [.arr zw.cells.toList 0 true], as.ev⟩) (w := Ab.ptr as.σ.length 0) h (fun k' => ?_) q1 q2 (.ptr q3) (.of_snoc rfl rfl) (.nil rfl)
      unfold evalOp; rw [ho]; simp only [k1, Option.bind_some]
      unfold boxc; rw [if_pos (by rw [k2.cells.isC]; exact hc)]; rfl
    · cases h2
  | box t x =>
    rw [ho] at h
    simp only [Option.bind_eq_some_iff] at h
    obtain ⟨zv, h1, r, h2, h⟩ := h
    obtain ⟨zw, k1, k2⟩ := opnd_simV hF h1
    unfold boxV at h2
    split at h2
    · rename_i hc
      cases h2
      obtain ⟨s1, q1, q2, q3, _⟩ := rel_new hR 0 0 (Nat.le_refl _) (Nat.zero_le _) k2.cells
      refine done_store hR hF (as1 := ⟨as.σ ++ [.arr zw.cells.toList 0 true], as.ev⟩) (w := Ab.ptr as.σ.length 0) h (fun k' => ?_) q1 q2 (.ptr q3) (.of_snoc rfl rfl) (.nil rfl)
      unfold evalOp; rw [ho]; simp only [k1, Option.bind_some]
      unfold boxc; rw [if_pos (by rw [k2.cells.isC]; exact hc)]; rfl
    · cases h2
  | build t parts =>
    rw [ho] at h
    simp only [Option.bind_eq_some_iff] at h
    obtain ⟨ps, h1, v, h2, h⟩ := h
    obtain ⟨pw, k1, k2⟩ := opndP_simV hF h1
    obtain ⟨w, k3, k4⟩ := build_simV h2 k2
    exact done_pure hR hF h (fun k' => by unfold evalOp; rw [ho]; simp only [k1, k3, Option.bind_some]) k4
  | buildSlice t len parts =>
    rw [ho] at h
    simp only [Option.bind_eq_some_iff] at h
    obtain ⟨ps, h1, r, h2, h⟩ := h
    obtain ⟨pw, k1, k2⟩ := opndP_simV hF h1
    obtain ⟨w, as1, s1, k3, k4, k5, k6, k7, k8, k9⟩ := buildSlice_simV hR (v := r.1) (vs1 := r.2) h2 k2
    refine done_store hR hF h (fun k' => by unfold evalOp; rw [ho]; simp only [k1, k3, Option.bind_some]) k4 k5 k6 ?_ (.nil k8)
    rcases k9 with e | ⟨x, e⟩
    · exact .of_eq e k7
    · exact .of_snoc e k7
  | load t a =>
    rw [ho] at h
    simp only at h
    cases htk : m.tk with
    | true =>
      rw [htk] at h
      cases hod : m.od with
      | true =>
        rw [hod] at h
        simp only [if_true, Option.bind_eq_some_iff] at h
        obtain ⟨p, h1, hagg, h3, r, h2, h⟩ := h
        obtain ⟨pw, k1, k2⟩ := opnd_simV hF h1
        split at h3
        · rename_i hag
          cases h3
          obtain ⟨w, s1, q1, q2, q3, q4, q5, q6, q7, q8, q9, b, o', c, lo, x, e1, e2, e3, e4⟩ := ldt_simV hR (v := r.1) (vs1 := r.2) h2 k2
          refine ⟨_, _, _, [], w, as, s1, h, fun k' => ?_, q2, ?_, ?_, q7, fun hh => (Bool.false_ne_true (hh.symm.trans hod)).elim, ?_, .nil q9⟩
          · unfold evalOp; rw [ho]; simp only [k1, pLoad, hag, Option.bind_some, Bool.false_eq_true, if_false, q1]
          · rw [e4]
            exact ⟨by rw [q4]; exact fun _ _ h => h, by rw [q5]; exact fun _ h => h, fun _ _ => by rw [q3], by simp, Nat.le_refl _, fun a L hL hf => q6 a L hL (by cases ext_mode htk L hf; simp), fun _ _ _ _ => rfl, fun _ _ _ _ => rfl⟩
          · intro t' v' hv'
            obtain ⟨w', p1, p2, p3⟩ := hF t' v' hv'
            have hR1 : ∀ {u : VV} {w : Value}, s.R u w → s1.R u w := by intro u w hu; unfold St.R; rw [q3, q4, q5]; exact hu
            refine ⟨w', p1, ?_, fun h => hR1 (p3 h)⟩
            cases p2 with
            | c h => exact .c (hR1 h)
            | o hz he how h => exact .o (by rw [q4]; exact hz) he (q6 _ _ how (by simp)) (hR1 h)
          · refine .of_set e2 e4 (by rw [q8]; exact fun _ h => h) fun _ _ q hq _ => lowPL_set hq ?_
            rw [lowP_cls]; exact lowPL_iff.1 hq _ (List.mem_of_getElem? e3)
        · cases h3
      | false => rw [hod] at h; simp at h
    | false =>
      rw [htk] at h
      simp only [Bool.false_eq_true, if_false, Option.bind_eq_some_iff] at h
      obtain ⟨p, h1, v, h2, h⟩ := h
      obtain ⟨pw, k1, k2⟩ := opnd_simV hF h1
      obtain ⟨w, k3, k4⟩ := load_simV hR h2 k2
      exact done_pure hR hF h (fun k' => by unfold evalOp; rw [ho]; simp only [k1, k3, Option.bind_some]) k4
  | store t a x =>
    rw [ho] at h
    simp only at h
    cases htk : m.tk with
    | true =>
      rw [htk] at h
      simp only [if_true, Option.bind_eq_some_iff] at h
      obtain ⟨p, h1, r, h2, vs2, h3, h⟩ := h
      obtain ⟨pw, k1, k2⟩ := opnd_simV hF h1
      obtain ⟨w, s1, k3, k4, k5, k6, k7, e1, e2, e3⟩ := take_simV hR hF (fr1 := r.2) (v := r.1) h2
      unfold storeVV stvV at h3
      simp only [Option.bind_eq_some_iff] at h3
      obtain ⟨n, h4, h3⟩ := h3
      split at h3
      · rename_i hn
        have hcell : (All2 s1.R (cellsV r.1) w.cells.toList ∨ ∃ x w', cellsV r.1 = [x] ∧ w.cells.toList = [w'] ∧ VT s1 .res x w') ∧ w.cells.size = (cellsV r.1).length := by
          generalize r.1 = rv at k7 ⊢
          cases k7 with
          | c hh => exact ⟨.inl hh.cells, by have := hh.cells.1; simp at this; omega⟩
          | o hz he how hh => exact ⟨.inr ⟨_, _, rfl, rfl, .o hz he how hh⟩, rfl⟩
        have k2' : s1.R p pw := by unfold St.R; rw [e1, e2, e3]; exact k2
        obtain ⟨as1, s2, q1, q2, q3, q4, q5, q6, q7, b, o', c, lo, g1, g2, g3, _⟩ := stn_simV (h' := h') k4 h3 k2' hcell.1
        subst g1
        refine ⟨undefV, r.2, vs2, [b], undef, as1, s2, h, fun k' => ?_, q2, ?_, ?_, .c (.tup rfl fun j x w hx => by simp at hx), fun _ => .tup rfl fun j x w hx => by simp at hx, ?_, ?_⟩
        · unfold evalOp; rw [ho]; simp only [k1, k3, Option.bind_some, pStore, h4, stv]
          rw [if_pos (by omega), q1]; rfl
        · exact ((k5.trans hR (q3.weaken fix_ext)).ws (by simp [wsOf])).weaken (ext_mode htk)
        · exact k6.mono k4 q3 fun _ => trivial
        · subst g3; exact .store g2
        · subst g3; exact .one rfl
      · cases h3
    | false =>
      rw [htk] at h
      simp only [Bool.false_eq_true, if_false, Option.bind_eq_some_iff] at h
      obtain ⟨p, h1, v, h2, vs2, h3, h⟩ := h
      obtain ⟨pw, k1, k2⟩ := opnd_simV hF h1
      obtain ⟨w, k3, k4⟩ := opnd_simV hF h2
      unfold storeVV stvV at h3
      simp only [Option.bind_eq_some_iff] at h3
      obtain ⟨n, h4, h3⟩ := h3
      split at h3
      · rename_i hn
        have hcl := k4.cells.1
        simp at hcl
        obtain ⟨as1, s2, q1, q2, q3, q4, q5, q6, q7, b, o', c, lo, g1, g2, g3, _⟩ := stn_simV (h' := h') hR h3 k2 (.inl k4.cells)
        subst g1
        refine done_store hR hF (v := undefV) (w := undef) h (fun k' => ?_) q2 q3 (.tup rfl fun j x w hx => by simp at hx) ?_ ?_
        · unfold evalOp; rw [ho]; simp only [k1, k3, Option.bind_some, pStore, h4, stv]
          rw [if_pos (by omega), q1]; rfl
        · subst g3; exact .store g2
        · subst g3; exact .one rfl
      · cases h3
  | nilCheck x =>
    rw [ho] at h
    simp only [Option.bind_eq_some_iff] at h
    obtain ⟨u, h1, v, h2, h⟩ := h
    obtain ⟨uw, k1, k2⟩ := opnd_simV hF h1
    obtain ⟨w, k3, k4⟩ := nilC_simV h2 k2
    exact done_pure hR hF h (fun k' => by unfold evalOp; rw [ho]; simp only [k1, k3, Option.bind_some]) k4
  | binOp op t x y p =>
    rw [ho] at h
    simp only [Option.bind_eq_some_iff] at h
    obtain ⟨u, h1, u2, h2, v, h3, h⟩ := h
    obtain ⟨uw, k1, k2⟩ := opnd_simV hF h1
    obtain ⟨uw2, k3, k4⟩ := opnd_simV hF h2
    obtain ⟨w, k5, k6⟩ := bin_simV h3 k2 k4
    exact done_pure hR hF h (fun k' => by unfold evalOp; rw [ho]; simp only [k1, k3, k5, Option.bind_some]) k6
  | unOp op t x =>
    rw [ho] at h
    simp only [Option.bind_eq_some_iff] at h
    obtain ⟨u, h1, v, h2, h⟩ := h
    obtain ⟨uw, k1, k2⟩ := opnd_simV hF h1
    obtain ⟨w, k3, k4⟩ := un_simV h2 k2
    exact done_pure hR hF h (fun k' => by unfold evalOp; rw [ho]; simp only [k1, k3, Option.bind_some]) k4
  | convert src dst x =>
    rw [ho] at h
    simp only [Option.bind_eq_some_iff] at h
    obtain ⟨u, h1, v, h2, h⟩ := h
    obtain ⟨uw, k1, k2⟩ := opnd_simV hF h1
    obtain ⟨w, k3, k4⟩ := conv_simV h2 k2
    exact done_pure hR hF h (fun k' => by unfold evalOp; rw [ho]; simp only [k1, k3, Option.bind_some]) k4
  | makeFunc fn first captured =>
    rw [ho] at h
    simp only [Option.bind_eq_some_iff] at h
    obtain ⟨u, h1, u2, h2, v, h3, h⟩ := h
    obtain ⟨uw, k1, k2⟩ := opnds_simV hF h1
    obtain ⟨uw2, k3, k4⟩ := opnds_simV hF h2
    obtain ⟨w, k5, k6⟩ := mkFn_simV h3 k2 k4
    exact done_pure hR hF h (fun k' => by unfold evalOp; rw [ho]; simp only [k1, k3, k5, Option.bind_some]) k6
  | makeSlice t l c =>
    rw [ho] at h
    simp only [Option.bind_eq_some_iff] at h
    obtain ⟨u, h1, u2, h2, r, h3, h⟩ := h
    obtain ⟨uw, k1, k2⟩ := opnd_simV hF h1
    obtain ⟨uw2, k3, k4⟩ := opnd_simV hF h2
    obtain ⟨w, as1, s1, q1, q2, q3, q4, q5, q6, q7⟩ := makeSlice_simV hR (v := r.1) (vs1 := r.2) h3 k2 k4
    refine done_store hR hF h (fun k' => by unfold evalOp; rw [ho]; simp only [k1, k3, q1, Option.bind_some]) q2 q3 q4 ?_ (.nil q6)
    rcases q7 with e | ⟨x, e⟩
    · exact .of_eq e q5
    · exact .of_snoc e q5
  | slice t x lo hi mx =>
    rw [ho] at h
    simp only [Option.bind_eq_some_iff] at h
    obtain ⟨u, h1, l, h2, hh, h3, mm, h4, r, h5, h⟩ := h
    obtain ⟨uw, k1, k2⟩ := opnd_simV hF h1
    obtain ⟨lw, k3, k4⟩ := opndO_simV hF h2
    obtain ⟨hw, k5, k6⟩ := opndO_simV hF h3
    obtain ⟨mw, k7, k8⟩ := opndO_simV hF h4
    obtain ⟨w, s1, q1, q2, q3, q4, q5, q6, q7, q8⟩ := slice_simV hR (v := r.1) (vs1 := r.2) h5 k2 k4 k6 k8
    refine done_store hR hF h (fun k' => by unfold evalOp; rw [ho]; simp only [k1, k3, k5, k7, q1, Option.bind_some]) q2 q3 q4 ?_ (.nil q7)
    rcases q8 with e | ⟨b, c, lo, op, e1, e2⟩
    · exact .of_eq e q6
    · exact .of_set e1 e2 (by rw [q6]; exact fun _ h => h) fun _ _ q hq _ => by rw [lowPL_map_cls]; exact hq
  | fieldAddr t x f =>
    rw [ho] at h
    simp only [Option.bind_eq_some_iff] at h
    obtain ⟨u, h1, v, h2, h⟩ := h
    obtain ⟨uw, k1, k2⟩ := opnd_simV hF h1
    obtain ⟨w, k3, k4⟩ := fieldAddr_simV h2 k2
    exact done_pure hR hF h (fun k' => by unfold evalOp; rw [ho]; simp only [k1, k3, Option.bind_some]) k4
  | field t x f =>
    rw [ho] at h
    simp only [Option.bind_eq_some_iff] at h
    obtain ⟨u, h1, v, h2, h⟩ := h
    obtain ⟨uw, k1, k2⟩ := opnd_simV hF h1
    obtain ⟨w, k3, k4⟩ := field_simV h2 k2
    exact done_pure hR hF h (fun k' => by unfold evalOp; rw [ho]; simp only [k1, k3, Option.bind_some]) k4
  | indexAddr t x i =>
    rw [ho] at h
    simp only [Option.bind_eq_some_iff] at h
    obtain ⟨u, h1, u2, h2, v, h3, h⟩ := h
    obtain ⟨uw, k1, k2⟩ := opnd_simV hF h1
    obtain ⟨uw2, k3, k4⟩ := opnd_simV hF h2
    obtain ⟨w, k5, k6⟩ := indexAddr_simV h3 k2 k4
    exact done_pure hR hF h (fun k' => by unfold evalOp; rw [ho]; simp only [k1, k3, k5, Option.bind_some]) k6
  | index t x i =>
    rw [ho] at h
    simp only [Option.bind_eq_some_iff] at h
    obtain ⟨u, h1, u2, h2, v, h3, h⟩ := h
    obtain ⟨uw, k1, k2⟩ := opnd_simV hF h1
    obtain ⟨uw2, k3, k4⟩ := opnd_simV hF h2
    obtain ⟨w, k5, k6⟩ := index_simV h3 k2 k4
    exact done_pure hR hF h (fun k' => by unfold evalOp; rw [ho]; simp only [k1, k3, k5, Option.bind_some]) k6
  | extract x i =>
    rw [ho] at h
    simp only [Option.bind_eq_some_iff] at h
    obtain ⟨u, h1, v, h2, h⟩ := h
    obtain ⟨uw, k1, k2⟩ := opnd_simV hF h1
    obtain ⟨w, k3, k4⟩ := ext_simV h2 k2
    exact done_pure hR hF h (fun k' => by unfold evalOp; rw [ho]; simp only [k1, k3, Option.bind_some]) k4
  | call c =>
    rw [ho] at h
    simp only at h
    cases hcal : c.callee with
    | value f =>
      rw [hcal] at h
      simp only [Option.bind_eq_some_iff] at h
      obtain ⟨args, h1, fv, h2, r, h3, h⟩ := h
      obtain ⟨ws, k1, k2⟩ := opnds_simV hF h1
      obtain ⟨fw, k3, k4⟩ := opnd_simV hF h2
      unfold callVV at h3
      split at h3
      · rename_i g a b
        obtain ⟨aw, bw, rfl, ha, hb'⟩ := k4.fn_inv
        obtain ⟨w, as1, s1, q1, q2, q3, q4, q5, q6⟩ := callF_simV hC h3 hR ((ha.append k2).append hb')
        refine ⟨_, fr, r.2.1, r.2.2, w, as1, s1, h, fun k' => ?_, q2, q3.weaken (fix_mode m), hF.mono hR q3 fun _ => trivial, ?_, fun hod => ?_, q5, q6⟩
        · unfold evalOp; rw [ho]; simp only [k1, Option.bind_some, hcal, k3, callV, q1]
        · unfold fin; split
          · exact q4
          · exact .c q4.cls
        · unfold fin; rw [hod]; exact q4.cls
      · cases h3
    | builtin b =>
      rw [hcal] at h
      cases b with
      | len =>
        simp only [Option.bind_eq_some_iff] at h
        obtain ⟨args, h1, v, h2, h⟩ := h
        obtain ⟨ws, k1, k2⟩ := opnds_simV hF h1
        split at h2
        · rename_i x
          obtain ⟨xw, b', rfl, k3, k4⟩ := k2.cons_inv
          rw [k4.nil_inv] at k1
          obtain ⟨w, k5, k6⟩ := len_simV h2 k3
          exact done_pure hR hF h (fun k' => by unfold evalOp; rw [ho]; simp only [k1, hcal, k5, Option.bind_some]) k6
        · cases h2
      | append =>
        simp only at h
        split at h
        · rename_i x y hxy
          cases htk : m.tk with
          | true =>
            rw [htk] at h
            simp only [if_true, Option.bind_eq_some_iff] at h
            obtain ⟨q, h1, yv, h2, r, h3, h⟩ := h
            obtain ⟨w, s1, k3, k4, k5, k6, k7, e1, e2, e3⟩ := take_simV hR hF (fr1 := q.2) (v := q.1) h1
            obtain ⟨yw, k8, k9⟩ := opnd_simV hF h2
            have k9 : s1.R yv yw := by unfold St.R; rw [e1, e2, e3]; exact k9
            unfold appendVV at h3
            split at h3
            · rename_i t u ht hu
              split at h3
              all_goals try (cases h3; done)
              all_goals
                rename_i hun
                simp only [Option.bind_eq_some_iff] at h3
                obtain ⟨e, g1, ag, g2, kk, g3, by_, g4, zz, g5, h3⟩ := h3
                split at h3
                · rename_i hcond
                  obtain ⟨⟨rw', as1, s2, p1, p2, p3, p4, p5⟩, p6⟩ := app_sim k4 (v := r.1) (vs1 := r.2) h3 k7 k9
                  refine ⟨_, _, _, _, rw', as1, s2, h, fun k' => ?_, p2, ((k5.trans hR (p3.weaken fix_ext)).ws (by simp)).weaken (ext_mode htk), k6.mono k4 p3 fun _ => trivial, ?_, fun hod => ?_, ?_, ?_⟩
                  · unfold evalOp; rw [ho]; simp only [hxy, opnds, k3, k8, Option.bind_some, hcal, pAppend, ht, hu, hun, g1, g3, g4, g5]; rw [if_pos hcond, p1]; rfl
                  · unfold fin; split
                    · exact p4
                    · exact .c p4.cls
                  · unfold fin; rw [hod]; exact p4.cls
                  · exact (app_shape h3).1
                  · exact (app_shape h3).2
                · cases h3
            · cases h3
          | false =>
            rw [htk] at h
            simp only [Bool.false_eq_true, if_false, Option.bind_eq_some_iff] at h
            obtain ⟨xv, h1, yv, h2, r, h3, h⟩ := h
            obtain ⟨w, k3, k7⟩ := opnd_simV hF h1
            obtain ⟨yw, k8, k9⟩ := opnd_simV hF h2
            unfold appendVV at h3
            split at h3
            · rename_i t u ht hu
              split at h3
              all_goals try (cases h3; done)
              all_goals
                rename_i hun
                simp only [Option.bind_eq_some_iff] at h3
                obtain ⟨e, g1, ag, g2, kk, g3, by_, g4, zz, g5, h3⟩ := h3
                split at h3
                · rename_i hcond
                  obtain ⟨⟨rw', as1, s2, p1, p2, p3, p4, p5⟩, p6⟩ := app_sim hR (v := r.1) (vs1 := r.2) h3 (.c k7) k9
                  refine ⟨_, _, _, _, rw', as1, s2, h, fun k' => ?_, p2, p3.weaken (fix_mode m), hF.mono hR p3 fun _ => trivial, ?_, fun hod => ?_, ?_, ?_⟩
                  · unfold evalOp; rw [ho]; simp only [hxy, opnds, k3, k8, Option.bind_some, hcal, pAppend, ht, hu, hun, g1, g3, g4, g5]; rw [if_pos hcond, p1]; rfl
                  · unfold fin; split
                    · exact p4
                    · exact .c p4.cls
                  · unfold fin; rw [hod]; exact p4.cls
                  · exact (app_shape h3).1
                  · exact (app_shape h3).2
                · cases h3
            · cases h3
        · cases h
      | copy =>
        simp only at h
        split at h
        · rename_i x y hxy
          simp only [Option.bind_eq_some_iff] at h
          obtain ⟨xv, h1, yv, h2, r, h3, h⟩ := h
          obtain ⟨w, k3, k7⟩ := opnd_simV hF h1
          obtain ⟨yw, k8, k9⟩ := opnd_simV hF h2
          unfold copyVV at h3
          split at h3
          · rename_i t ht
            simp only [Option.bind_eq_some_iff] at h3
            obtain ⟨e, g1, ag, g2, kk, g3, h3⟩ := h3
            obtain ⟨rw', as1, s1, p1, p2, p3, p4, p5⟩ := cpy_sim (h' := h') hR (v := r.1) (vs1 := r.2) h3 k7 k9
            refine done_store hR hF h (fun k' => ?_) p2 p3 p4 ?_ ?_
            · unfold evalOp; rw [ho]; simp only [hxy, opnds, k3, k8, Option.bind_some, hcal, pCopy, ht, g1, g3, p1]
            · rcases p5 with ⟨e, _⟩ | ⟨_, _, _, _, _, _, _, e⟩ | ⟨ag, b, o', n, k2, f, c, lo, xs, e1, e2, e3⟩
              · rw [e]; exact .refl _ _
              · rw [e]; exact .of_eq rfl rfl
              · rw [e3]; exact .store e2
            · rcases p5 with ⟨e, e'⟩ | ⟨_, _, _, _, _, _, e', e⟩ | ⟨ag, b, o', n, k2, f, c, lo, xs, e1, e2, e3⟩
              · rw [e, e']; exact .nil rfl
              · rw [e, e']; exact .one rfl
              · rw [e3, e1]; exact .one rfl
          · cases h3
        · cases h
      | min =>
        simp only [Option.bind_eq_some_iff] at h
        obtain ⟨args, h1, v, h2, h⟩ := h
        obtain ⟨ws, k1, k2⟩ := opnds_simV hF h1
        obtain ⟨w, k5, k6⟩ := mm_simV h2 k2
        exact done_pure hR hF h (fun k' => by unfold evalOp; rw [ho]; simp only [k1, hcal, k5, Option.bind_some]) k6
      | max =>
        simp only [Option.bind_eq_some_iff] at h
        obtain ⟨args, h1, v, h2, h⟩ := h
        obtain ⟨ws, k1, k2⟩ := opnds_simV hF h1
        obtain ⟨w, k5, k6⟩ := mm_simV h2 k2
        exact done_pure hR hF h (fun k' => by unfold evalOp; rw [ho]; simp only [k1, hcal, k5, Option.bind_some]) k6
      | _ => simp at h
    | _ => rw [hcal] at h; simp at h
  | _ => rw [ho] at h; simp at h
end
end
end Go.Vm
