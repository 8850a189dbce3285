/-
  What is left behind a call, from the machine of values to the abstract machine.
-/
import Derived.Test.YtkpamaplmjlagaaVSim2
namespace Go.Vm
open Go Go.Ab
set_option linter.unusedVariables false

theorem lowP_and {p q : Nat → Bool} {v : VV} : lowP p v = true → lowP q v = true → lowP (fun b => p b && q b) v = true := by
  refine VV.rec (motive_1 := fun v => lowP p v = true → lowP q v = true → lowP (fun b => p b && q b) v = true) (motive_2 := fun l => lowPL p l = true → lowPL q l = true → lowPL (fun b => p b && q b) l = true) ?_ ?_ ?_ ?_ ?_ ?_ ?_ ?_ ?_ ?_ v
  · intro _ _ _; rfl
  · intro b o h k; simp only [lowP] at *; rw [h, k]; rfl
  · intro ag b o n k f h k; simp only [lowP] at *; rw [h, k]; rfl
  · intro f k es ih h k; exact ih h k
  · intro v ih h k; exact ih h k
  · intro cs ih h k; exact ih h k
  · intro f a b ih1 ih2 h k
    simp only [lowP, Bool.and_eq_true] at h k ⊢
    exact ⟨ih1 h.1 k.1, ih2 h.2 k.2⟩
  · intro vs ih h k; exact ih h k
  · intro _ _; rfl
  · intro x l ih1 ih2 h k
    simp only [lowPL, Bool.and_eq_true] at h k ⊢
    exact ⟨ih1 h.1 k.1, ih2 h.2 k.2⟩

/-- What is given, and what has become of it, within a call. -/
structure Cfg (s0 : St) (σ0 : List VObj) (α0 : List AObj) (s : St) (vs : VS) (as : S) : Prop where
  r0 : Rel s0 σ0 α0
  rel : Rel s vs.σ as.σ
  ex : ∃ W, Ex (· = .ext) s0 σ0 α0 s vs.σ as.σ W ∧ ∀ b ∈ W, b < σ0.length → b ∈ vs.wr
  ev : EvOk σ0.length ⟨σ0, [], []⟩ vs

theorem Cfg.ext {s0 : St} {σ0 : List VObj} {α0 : List AObj} {s : St} {vs : VS} {as : S} (h : Cfg s0 σ0 α0 s vs as) : Ex (· = .ext) s0 σ0 α0 s vs.σ as.σ vs.wr := by
  obtain ⟨W, hE, hW⟩ := h.ex
  exact ⟨hE.z, hE.lit, hE.ι, hE.lenV, hE.lenA, hE.ow, fun b a hb ha => hE.keep b a (fun hh => hb (hW b hh (h.r0.lt ha))) ha, hE.zobj⟩
theorem Cfg.step {s0 : St} {σ0 : List VObj} {α0 : List AObj} {s s1 : St} {vs vs1 : VS} {as as1 : S} {ws : List Nat} (h : Cfg s0 σ0 α0 s vs as) (hR : Rel s1 vs1.σ as1.σ) (hE : Ex (· = .ext) s vs.σ as.σ s1 vs1.σ as1.σ ws) (hev : EvOk σ0.length vs vs1) (hwr : WrOk σ0.length ws vs vs1) : Cfg s0 σ0 α0 s1 vs1 as1 := by
  obtain ⟨W, hE0, hW⟩ := h.ex
  refine ⟨h.r0, hR, ⟨W ++ ws, hE0.trans h.r0 hE, fun b hb hl => ?_⟩, h.ev.trans hev⟩
  rcases List.mem_append.1 hb with hh | hh
  · exact hwr.2 b (hW b hh hl)
  · exact hwr.1 b hh hl

/-- Rights of slots are gone; that of the result is the result's. -/
def finO (t : Option Nat) : Option Loc → Option Loc
  | some (.slot t') => if some t' = t then some .res else none
  | some .res => none
  | x => x
theorem finO_inv {t : Option Nat} {x : Option Loc} {L : Loc} (h : finO t x = some L) : (∃ L', x = some L') ∧ (L = .ext ∨ L = .res ∨ ∃ b i, L = .cell b i) := by
  unfold finO at h
  split at h
  · split at h
    · cases h; exact ⟨⟨_, rfl⟩, .inr (.inl rfl)⟩
    · cases h
  · cases h
  · rename_i h1 h2
    cases x with
    | none => cases h
    | some x =>
      cases h
      refine ⟨⟨_, rfl⟩, ?_⟩
      cases L with
      | slot t => exact absurd rfl (h1 t)
      | res => exact absurd rfl h2
      | ext => exact .inl rfl
      | cell b i => exact .inr (.inr ⟨b, i, rfl⟩)

/-- A result, and where its right lies. -/
def ResOk (s : St) (t : Option Nat) (v : VV) (w : Value) : Prop := s.R v w ∨ ∃ t', t = some t' ∧ VT s (.slot t') v w

section
variable {s0 : St} {σ0 : List VObj} {α0 : List AObj} {s : St} {vs : VS} {as : S} {t : Option Nat} {v : VV} {w : Value}

/-- What is told of the end of a call. -/
def EndOk (s0 : St) (σ0 : List VObj) (α0 : List AObj) (v : VV) (vs1 : VS) (as : S) (w : Value) : Prop :=
  ∃ s1, Rel s1 vs1.σ as.σ ∧ Ex (· = .ext) s0 σ0 α0 s1 vs1.σ as.σ vs1.wr ∧ VT s1 .res v w ∧ (∀ a L, s1.ow a = some L → L = .ext ∨ L = .res ∨ ∃ b i, L = .cell b i) ∧ EvOk σ0.length ⟨σ0, [], []⟩ vs1

theorem end_all (h : Cfg s0 σ0 α0 s vs as) (hv : ResOk s t v w) {ev : List Nat} (hev : ev = vs.ev) : EndOk s0 σ0 α0 v ⟨vs.σ, ev, vs.wr⟩ as w := by
  subst hev
  let s1 : St := { s with ow := fun a => finO t (s.ow a) }
  have hvo : ∀ {b j : Nat} {u : VV} {w : Value}, VT s (.cell b j) u w → VT s1 (.cell b j) u w := by
    intro b j u w hu
    cases hu with
    | c h => exact .c h
    | o hz he how h => exact .o hz he (by simp only [s1, how]; rfl) h
  have hE := h.ext
  refine ⟨s1, ⟨h.rel.dom, h.rel.inj, fun b c lo op hb => ?_, h.rel.zrow, h.rel.zi, fun a L hL => ?_, h.rel.litz⟩, ⟨hE.z, hE.lit, hE.ι, hE.lenV, hE.lenA, fun a L hL hf => ?_, hE.keep, hE.zobj⟩, ?_, fun a L hL => (finO_inv hL).2, h.ev⟩
  · obtain ⟨a2, c2, lo2, op2, p1, p2, p3, p4, p5, p6⟩ := h.rel.obj _ _ _ _ hb
    exact ⟨a2, c2, lo2, op2, p1, p2, p3, p4, p5, fun j x w hx hw => hvo (p6 j x w hx hw)⟩
  · obtain ⟨⟨L', hL'⟩, _⟩ := finO_inv hL
    exact h.rel.own a L' hL'
  · subst hf
    have := hE.ow a _ hL rfl
    simp only [s1, this]; rfl
  · rcases hv with hv | ⟨t', rfl, hv⟩
    · exact .c hv
    · cases hv with
      | c h => exact .c h
      | o hz he how h => exact .o hz he (by simp only [s1, how, finO, if_true]) h

theorem row_low (h : Cfg s0 σ0 α0 s vs as) (hev : vs.ev = []) {b lo : Nat} {op : Bool} {c : List VV} (hb : b < σ0.length) (hc : vs.σ[b]? = some (.arr c lo op)) : lowL σ0.length c = true := by
  obtain ⟨c0, lo0, op0, k1, k2⟩ := h.ev.2.2 b hb hb (by rw [hev]; simp) c lo op hc
  refine k2 _ ?_ fun j hj => by simp; omega
  obtain ⟨a, c', lo', op', g1, g2, _, _, g3, g4⟩ := h.r0.obj _ _ _ _ k1
  refine lowPL_get fun j x hx => ?_
  have hj := getlt hx
  have := (g4 j x _ hx (List.getElem?_eq_getElem (show j < c'.length by omega))).cls.low (q := fun b => decide (b < σ0.length)) fun b a hb => by simp; exact h.r0.lt hb
  rwa [lowP_cls] at this

/-- What is dropped becomes values. -/
theorem end_take (h : Cfg s0 σ0 α0 s vs as) (hv : ResOk s t v w) (hev : vs.ev = []) (hlow : low σ0.length (frz σ0.length vs v) = true) : EndOk s0 σ0 α0 (frz σ0.length vs v) ⟨vs.σ.take σ0.length, [], vs.wr⟩ as w := by
  classical
  have hE := h.ext
  have hR := h.rel
  have hlen := hE.lenV
  -- the one that may be appended to
  let R0 : Nat → Prop := fun a => ∃ ag b o n k f, v = .rs ag b o n k f ∧ s.ι b = some a ∧ f ≠ 1
  let Dr : Nat → Prop := fun a => ∃ b c lo, σ0.length ≤ b ∧ s.ι b = some a ∧ vs.σ[b]? = some (.arr c lo true) ∧ c.all simpleV = true
  have hDz : ∀ a, Dr a → s.z a = none := by
    rintro a ⟨b, c, lo, _, h1, h2, _⟩
    cases hz : s.z a with
    | none => rfl
    | some r =>
      obtain ⟨c2, lo2, k⟩ := hR.zi a r b hz h1
      rw [h2] at k; cases k
  have hDrow : ∀ a, Dr a → ∃ r lo, as.σ[a]? = some (.arr r lo true) ∧ r.all refl1 = true ∧ lo ≤ r.length := by
    rintro a ⟨b, c, lo, _, h1, h2, h3⟩
    obtain ⟨a', c', lo', op', g1, g2, g3, g3', g4, g5⟩ := hR.obj _ _ _ _ h2
    rw [h1] at g1; cases g1
    obtain ⟨rfl, hlo⟩ := g3 rfl
    refine ⟨c', lo', g2, all_refl (cells_cls g4 g5) ?_, by omega⟩
    rw [List.all_eq_true]
    intro x hx
    rw [List.mem_map] at hx
    obtain ⟨y, hy, rfl⟩ := hx
    rw [simpleV_cls]; exact (List.all_eq_true.1 h3) y hy
  let s1 : St :=
    { ι := fun b => if b < σ0.length then s.ι b else none
      z := fun a => if (s.z a).isSome then s.z a else if Dr a then row as a else none
      lit := fun a => s.lit a ∨ (Dr a ∧ ¬R0 a)
      ow := fun a => if Dr a ∧ R0 a then some .res else finO t (s.ow a) }
  have eι : ∀ b, b < σ0.length → s1.ι b = s.ι b := fun b hb => by simp only [s1]; rw [if_pos hb]
  have iι : ∀ b a, s1.ι b = some a → b < σ0.length ∧ s.ι b = some a := fun b a hb => by
    simp only [s1] at hb
    split at hb
    · exact ⟨by assumption, hb⟩
    · cases hb
  have ez : ∀ a r, s.z a = some r → s1.z a = some r := fun a r hz => by simp only [s1]; rw [if_pos (by rw [hz]; rfl)]; exact hz
  have dz : ∀ a r lo op, Dr a → as.σ[a]? = some (.arr r lo op) → s1.z a = some r := fun a r lo op hd hr => by simp only [s1]; rw [if_neg (by rw [hDz a hd]; simp), if_pos hd]; exact row_of hr
  have iz : ∀ a r, s1.z a = some r → s.z a = some r ∨ (Dr a ∧ row as a = some r) := fun a r hz => by
    simp only [s1] at hz
    split at hz
    · exact .inl hz
    · split at hz
      · exact .inr ⟨by assumption, hz⟩
      · cases hz
  have hch : ∀ {u : VV} {w : Value}, s.R u w → low σ0.length u = true → s1.R u w := fun hu hl => VR.change (q := fun b => decide (b < σ0.length)) ez (fun a ha => .inl ha) (fun b hb => eι b (by simpa using hb)) hu hl
  have hnoD : ∀ a L, s.ow a = some L → ¬Dr a := fun a L hL hd => by
    obtain ⟨b, c, lo, _, h1, _⟩ := hd
    exact (hR.own a L hL).2.2 b h1
  refine ⟨s1, ⟨?_, ?_, ?_, ?_, ?_, ?_, ?_⟩, ?_, ?_, ?_, ?_⟩
  · intro b hb
    simp at hb
    simp only [s1]; rw [if_neg (by omega)]
  · intro b b' a h1 h2
    exact hR.inj b b' a (iι _ _ h1).2 (iι _ _ h2).2
  · intro b c lo op hb
    have hbl := getlt hb
    simp only [List.length_take] at hbl
    have hbl : b < σ0.length ∧ True := ⟨by omega, trivial⟩
    simp only at hb
    rw [List.getElem?_take_of_lt hbl.1] at hb
    obtain ⟨a2, c2, lo2, op2, p1, p2, p3, p4, p5, p6⟩ := hR.obj _ _ _ _ hb
    have hlo := row_low h hev hbl.1 hb
    refine ⟨a2, c2, lo2, op2, by rw [eι b hbl.1]; exact p1, p2, p3, p4, p5, fun j x w hx hw => ?_⟩
    have hxl := lowPL_iff.1 hlo x (List.mem_of_getElem? hx)
    have := p6 j x w hx hw
    cases this with
    | c hh => exact .c (hch hh hxl)
    | o hz he how hh =>
      refine .o (ez _ _ hz) he ?_ (hch hh hxl)
      simp only [s1]; rw [if_neg (fun hh => hnoD _ _ how hh.1), how]; rfl
  · intro a r hz
    rcases iz a r hz with hz | ⟨hd, hz⟩
    · exact hR.zrow a r hz
    · obtain ⟨r', lo', q1, q2, _⟩ := hDrow a hd
      rw [row_of q1] at hz; cases hz
      exact ⟨lo', true, q1, q2⟩
  · intro a r b hz hb
    obtain ⟨hbl, hb⟩ := iι b a hb
    rcases iz a r hz with hz | ⟨hd, hz⟩
    · obtain ⟨c2, lo2, k⟩ := hR.zi _ _ _ hz hb
      exact ⟨c2, lo2, by simp only; rw [List.getElem?_take_of_lt hbl]; exact k⟩
    · obtain ⟨b', c, lo, hge, h1, _⟩ := hd
      have := hR.inj _ _ _ hb h1; omega
  · intro a L hL
    simp only [s1] at hL
    split at hL
    · rename_i hd
      cases hL
      obtain ⟨r', lo', q1, q2, q3⟩ := hDrow a hd.1
      refine ⟨⟨r', lo', dz a r' lo' true hd.1 q1, q1, q3⟩, ?_, fun b hb => ?_⟩
      · rintro (hl | ⟨_, hl⟩)
        · obtain ⟨r, hr⟩ := hR.litz a hl
          rw [hDz a hd.1] at hr; cases hr
        · exact hl hd.2
      · obtain ⟨hbl, hb⟩ := iι b a hb
        obtain ⟨b', c, lo, hge, h1, _⟩ := hd.1
        have := hR.inj _ _ _ hb h1; omega
    · obtain ⟨⟨L', hL'⟩, _⟩ := finO_inv hL
      obtain ⟨⟨r, lo, q1, q2, q3⟩, q4, q5⟩ := hR.own a L' hL'
      refine ⟨⟨r, lo, ez _ _ q1, q2, q3⟩, ?_, fun b hb => q5 b (iι b a hb).2⟩
      rintro (hl | ⟨hd, _⟩)
      · exact q4 hl
      · exact hnoD a L' hL' hd
  · rintro a (hl | ⟨hd, _⟩)
    · obtain ⟨r, hr⟩ := hR.litz a hl
      exact ⟨r, ez _ _ hr⟩
    · obtain ⟨r', lo', q1, _⟩ := hDrow a hd
      exact ⟨r', dz a r' lo' true hd q1⟩
  · refine ⟨fun a r hz => ez _ _ (hE.z a r hz), fun a hl => .inl (hE.lit a hl), fun b hb => (eι b hb).trans (hE.ι b hb), by simp; omega, hE.lenA, fun a L hL hf => ?_, hE.keep, hE.zobj⟩
    subst hf
    have := hE.ow a _ hL rfl
    simp only [s1]; rw [if_neg (fun hh => hnoD _ _ this hh.1), this]; rfl
  · -- the value
    have hf1 : ∀ (top : Bool) (x : VV) (wx : Value), (top = true → v = x) → s.R x wx → low σ0.length (frz1 σ0.length vs top x) = true → ((∀ ag b o n k f, v ≠ .rs ag b o n k f) ∨ v = x) → VT s1 .res (frz1 σ0.length vs top x) wx ∧ (top = false → s1.R (frz1 σ0.length vs top x) wx) := by
      intro top x wx htx hx hl htop
      cases x with
      | rs ag b o n k f =>
        simp only [frz1] at hl ⊢
        by_cases hge : σ0.length ≤ b
        · rw [if_pos hge] at hl ⊢
          cases hb : vs.σ[b]? with
          | none => rw [hb] at hl; simp [low, lowP] at hl; omega
          | some ob =>
            obtain ⟨c, lo, op⟩ := ob
            rw [hb] at hl
            simp only at hl ⊢
            split at hl
            · rename_i hc
              rw [if_pos hc]
              simp only [Bool.and_eq_true, decide_eq_true_eq, Bool.or_eq_true, beq_iff_eq, bne_iff_ne] at hc
              obtain ⟨⟨⟨⟨⟨⟨rfl, hs⟩, hlc⟩, hagk⟩, hk⟩, hbd⟩, hf⟩ := hc
              obtain ⟨a, ha, hf2, hag, rfl⟩ := hx.rs_inv
              have hd : Dr a := ⟨b, c, lo, hge, ha, hb, hs⟩
              obtain ⟨a', c', lo', op', g1, g2, g3, g3', g4, g5⟩ := hR.obj _ _ _ _ hb
              rw [ha] at g1; cases g1
              have hza := dz a c' lo' op' hd g2
              have hcl := cells_cls (b := b) g4 g5
              obtain ⟨q1, q2, q3⟩ := chunk_spec (ag := ag) (k := k) n ((c.drop o).map cls) (hagk.imp_right fun h => ⟨h, by
                rw [List.all_eq_true]
                intro x hx
                rw [List.mem_map] at hx
                obtain ⟨y, hy, rfl⟩ := hx
                rw [isC_cls]
                exact simple_isC ((List.all_eq_true.1 hs) _ (List.mem_of_mem_drop hy))⟩) (by simp; omega)
              have hall : All2 s1.R (flat (chunk ag k n ((c.drop o).map cls))) ((c'.drop o).take ((chunk ag k n ((c.drop o).map cls)).length * k)) := by
                rw [q1, q2, List.map_drop]
                refine ((All2.imp hcl fun x w hxm hxw => ?_).drop o).take _
                refine hch hxw ?_
                rw [List.mem_map] at hxm
                obtain ⟨y, hy, rfl⟩ := hxm
                unfold low; rw [lowP_cls]; exact lowPL_iff.1 hlc y hy
              have hmk : ∀ fl, (fl = 0 ∨ (fl = 1 ∧ f = 1 ∧ s1.lit a) ∨ (fl = 3 ∧ f = 1)) → s1.R (.sl fl k (chunk ag k n ((c.drop o).map cls))) (.slice (some ⟨a, o, none⟩) n (2 * k + f)) := by
                intro fl hfl
                have := sl_mk (ι := s1.ι) (z := s1.z) (lit := s1.lit) (f := fl) (k := k) (a := a) (o := o) (c := f) (es := chunk ag k n ((c.drop o).map cls)) hza (by rw [q2]; omega) hf2 hfl hk q3 hall
                rwa [q2] at this
              by_cases hf1' : f = 1
              · rw [if_pos hf1']
                have hlit : s1.lit a := by
                  refine .inr ⟨hd, ?_⟩
                  rintro ⟨ag2, b2, o2, n2, k2, f2, e1, e2, e3⟩
                  rcases htop with htop | htop
                  · exact htop _ _ _ _ _ _ e1
                  · rw [htop] at e1; cases e1; exact e3 hf1'
                have := hmk 1 (.inr (.inl ⟨rfl, hf1', hlit⟩))
                exact ⟨.c this, fun _ => this⟩
              · rw [if_neg hf1']
                have hf0 : f = 0 := by omega
                subst hf0
                split
                · rename_i htt
                  simp only [Bool.and_eq_true, decide_eq_true_eq] at htt
                  have h0 := hmk 0 (.inl rfl)
                  refine ⟨?_, fun hh => by rw [htt.1] at hh; cases hh⟩
                  have hvx : v = .rs ag b o n k 0 := htx htt.1
                  have hrs : Dr a ∧ R0 a := ⟨hd, ag, b, o, n, k, 0, hvx, ha, by decide⟩
                  have := VT.o (s := s1) (L := .res) (k := k) (es := chunk ag k n ((c.drop o).map cls)) (a := a) (o := o) hza (by rw [q2]; omega) (by simp only [s1]; rw [if_pos hrs]) (by rw [q2]; exact h0)
                  rw [q2] at this
                  exact this
                · have := hmk 0 (.inl rfl)
                  exact ⟨.c this, fun _ => this⟩
            · simp [low, lowP] at hl; omega
        · rw [if_neg hge] at hl ⊢
          have := hch hx hl
          exact ⟨.c this, fun _ => this⟩
      | _ =>
        have := hch hx hl
        exact ⟨.c this, fun _ => this⟩
    have hcell : (∀ ag b o n k f, v ≠ .rs ag b o n k f) → ∀ {cs : List VV} {ws : List Value}, All2 s.R cs ws → lowPL (fun b => decide (b < σ0.length)) (cs.map (frz1 σ0.length vs false)) = true → All2 s1.R (cs.map (frz1 σ0.length vs false)) ws := by
      intro hn cs ws hc hl
      refine All2.map hc fun x w hx hxw => ?_
      exact (hf1 false x w (fun h => by cases h) hxw (lowPL_iff.1 hl _ (List.mem_map_of_mem hx)) (.inl hn)).2 rfl
    have hres : s.R v w → VT s1 .res (frz σ0.length vs v) w := by
      intro hx
      cases v with
      | agg cs =>
        obtain ⟨ws, rfl, hc⟩ := VR.agg_iff.1 hx
        simp only [frz, low, lowP] at hlow ⊢
        exact .c (VR.agg_iff.2 ⟨ws, rfl, hcell (fun _ _ _ _ _ _ h => by cases h) hc hlow⟩)
      | tup us =>
        obtain ⟨ws, rfl, hc⟩ := VR.tup_iff.1 hx
        simp only [frz, low, lowP] at hlow ⊢
        refine .c (VR.tup_iff.2 ⟨ws, rfl, All2.map hc fun x w hx hxw => ?_⟩)
        have hl := lowPL_iff.1 hlow _ (List.mem_map_of_mem hx)
        cases x with
        | agg cs =>
          obtain ⟨ws, rfl, hc⟩ := VR.agg_iff.1 hxw
          simp only [lowP] at hl
          exact VR.agg_iff.2 ⟨ws, rfl, hcell (fun _ _ _ _ _ _ h => by cases h) hc hl⟩
        | _ => exact (hf1 false _ w (fun h => by cases h) hxw hl (.inl fun _ _ _ _ _ _ h => by cases h)).2 rfl
      | _ => exact (hf1 true _ w (fun _ => rfl) hx hlow (.inr rfl)).1
    rcases hv with hv | ⟨t', rfl, hv⟩
    · exact hres hv
    · cases hv with
      | c hh => exact hres hh
      | o hz he how hh =>
        simp only [frz, frz1] at hlow ⊢
        refine .o (ez _ _ hz) he ?_ (hch hh (by simpa [low, lowP] using hlow))
        simp only [s1]; rw [if_neg (fun hh => hnoD _ _ how hh.1), how]; simp [finO]
  · intro a L hL
    simp only [s1] at hL
    split at hL
    · cases hL; exact .inr (.inl rfl)
    · exact (finO_inv hL).2
  · refine ⟨by simp; omega, fun b hb => by simp at hb, fun b hb hl hn c1 lo1 op1 hc => ?_⟩
    simp only at hc
    rw [List.getElem?_take_of_lt hb] at hc
    exact h.ev.2.2 b hb hl (by rw [hev]; simp) c1 lo1 op1 hc
end
end Go.Vm
