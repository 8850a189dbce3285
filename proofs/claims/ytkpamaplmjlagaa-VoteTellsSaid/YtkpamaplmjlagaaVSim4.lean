/-
  Code and calls, from the machine of values to the abstract machine.
-/
import Derived.Test.YtkpamaplmjlagaaVSim3
namespace Go.Vm
open Go Go.Ab
set_option linter.unusedVariables false

section
variable {P : Program} {s0 : St} {σ0 : List VObj} {α0 : List AObj} {s : St} {vs : VS} {as : S} {t : Option Nat} {v : VV} {w : Value}

/-- One object is kept. -/
theorem end_one (h : Cfg s0 σ0 α0 s vs as) (hv : ResOk s t v w) (hev : vs.ev = []) {b lo : Nat} {op : Bool} {c : List VV} (hb : vs.σ[b]? = some (.arr c lo op)) (hbl : σ0.length ≤ b) (hlc : lowL σ0.length c = true)
    (hl1 : lowP (fun x => decide (x < σ0.length) || x == b) v = true) (hl2 : low (σ0.length + 1) (renVV b σ0.length v) = true) : EndOk s0 σ0 α0 (renVV b σ0.length v) ⟨vs.σ.take σ0.length ++ [.arr c lo op], [], vs.wr⟩ as w := by
  have hE := h.ext
  have hR := h.rel
  have hlen := hE.lenV
  have htl : (vs.σ.take σ0.length).length = σ0.length := by simp; omega
  let s1 : St :=
    { ι := fun b' => if b' < σ0.length then s.ι b' else if b' = σ0.length then s.ι b else none
      z := s.z
      lit := s.lit
      ow := fun a => match s.ow a with
        | some (.cell b' j) => if b' = b then some (.cell σ0.length j) else some (.cell b' j)
        | x => finO t x }
  have eι : ∀ b', b' < σ0.length → s1.ι b' = s.ι b' := fun b' hb' => by simp only [s1]; rw [if_pos hb']
  have e0 : s1.ι σ0.length = s.ι b := by simp [s1]
  have iι : ∀ b' a, s1.ι b' = some a → (b' < σ0.length ∧ s.ι b' = some a) ∨ (b' = σ0.length ∧ s.ι b = some a) := fun b' a hb' => by
    simp only [s1] at hb'
    split at hb'
    · exact .inl ⟨by assumption, hb'⟩
    · split at hb'
      · exact .inr ⟨by assumption, hb'⟩
      · cases hb'
  have ioL : ∀ a L, s1.ow a = some L → (∃ L', s.ow a = some L') ∧ (L = .ext ∨ L = .res ∨ ∃ b i, L = .cell b i) := fun a L hL => by
    simp only [s1] at hL
    split at hL
    · rename_i b' j hc
      refine ⟨⟨_, hc⟩, ?_⟩
      split at hL <;> cases hL <;> exact .inr (.inr ⟨_, _, rfl⟩)
    · exact finO_inv hL
  have hch : ∀ {u : VV} {w : Value}, s.R u w → low σ0.length u = true → s1.R u w := fun hu hl => VR.change (q := fun b => decide (b < σ0.length)) (fun _ _ h => h) (fun _ h => h) (fun b hb => eι b (by simpa using hb)) hu hl
  refine ⟨s1, ⟨?_, ?_, ?_, ?_, ?_, ?_, ?_⟩, ?_, ?_, fun a L hL => (ioL a L hL).2, ?_⟩
  · intro b' hb'
    simp only [List.length_append, htl, List.length_cons, List.length_nil] at hb'
    simp only [s1]; rw [if_neg (by omega), if_neg (by omega)]
  · intro b1 b2 a h1 h2
    rcases iι _ _ h1 with ⟨g1, g2⟩ | ⟨g1, g2⟩ <;> rcases iι _ _ h2 with ⟨k1, k2⟩ | ⟨k1, k2⟩
    · exact hR.inj _ _ _ g2 k2
    · have := hR.inj _ _ _ g2 k2; omega
    · have := hR.inj _ _ _ g2 k2; omega
    · omega
  · intro b' c1 lo1 op1 hb'
    rcases snoc_inv hb' with h1 | ⟨h1, h2⟩
    · have hl := getlt h1
      rw [htl] at hl
      rw [List.getElem?_take_of_lt hl] at h1
      obtain ⟨a2, c2, lo2, op2, p1, p2, p3, p4, p5, p6⟩ := hR.obj _ _ _ _ h1
      have hlo := row_low h hev hl h1
      refine ⟨a2, c2, lo2, op2, by rw [eι _ hl]; exact p1, p2, p3, p4, p5, fun j x w hx hw => ?_⟩
      have hxl := lowPL_iff.1 hlo x (List.mem_of_getElem? hx)
      have := p6 j x w hx hw
      cases this with
      | c hh => exact .c (hch hh hxl)
      | o hz he how hh =>
        refine .o hz he ?_ (hch hh hxl)
        simp only [s1, how]; rw [if_neg (by omega)]
    · rw [htl] at h1
      subst h1
      cases h2
      obtain ⟨a2, c2, lo2, op2, p1, p2, p3, p4, p5, p6⟩ := hR.obj _ _ _ _ hb
      refine ⟨a2, c2, lo2, op2, by rw [e0]; exact p1, p2, p3, p4, p5, fun j x w hx hw => ?_⟩
      have hxl := lowPL_iff.1 hlc x (List.mem_of_getElem? hx)
      have := p6 j x w hx hw
      cases this with
      | c hh => exact .c (hch hh hxl)
      | o hz he how hh =>
        refine .o hz he ?_ (hch hh hxl)
        simp only [s1, how]; rw [if_pos trivial]
  · exact hR.zrow
  · intro a r b' hz hb'
    rcases iι _ _ hb' with ⟨g1, g2⟩ | ⟨g1, g2⟩
    · obtain ⟨c2, lo2, k⟩ := hR.zi _ _ _ hz g2
      exact ⟨c2, lo2, snoc_old (by rw [List.getElem?_take_of_lt g1]; exact k)⟩
    · obtain ⟨c2, lo2, k⟩ := hR.zi _ _ _ hz g2
      rw [hb] at k; cases k
      subst g1
      have := snoc_self (vs.σ.take σ0.length) (VObj.arr c lo false)
      rw [htl] at this
      exact ⟨c, lo, this⟩
  · intro a L hL
    obtain ⟨⟨L', hL'⟩, _⟩ := ioL a L hL
    obtain ⟨q1, q2, q3⟩ := hR.own a L' hL'
    refine ⟨q1, q2, fun b' hb' => ?_⟩
    rcases iι _ _ hb' with ⟨_, g2⟩ | ⟨_, g2⟩
    · exact q3 _ g2
    · exact q3 _ g2
  · exact hR.litz
  · refine ⟨hE.z, hE.lit, fun b' hb' => (eι b' hb').trans (hE.ι b' hb'), by simp; omega, hE.lenA, fun a L hL hf => ?_, hE.keep, hE.zobj⟩
    subst hf
    have := hE.ow a _ hL rfl
    simp only [s1, this]; rfl
  · -- the value
    have hsame : ∀ {u : VV} {w : Value}, s.R u w → lowP (fun x => decide (x < σ0.length) || x == b) u = true → low (σ0.length + 1) u = true → s1.R u w := fun {u w} hu h1 h2 => by
      refine VR.change (q := fun x => (decide (x < σ0.length) || x == b) && decide (x < σ0.length + 1)) (fun _ _ h => h) (fun _ h => h) (fun x hx => ?_) hu (lowP_and h1 h2)
      simp only [Bool.and_eq_true, Bool.or_eq_true, decide_eq_true_eq, beq_iff_eq] at hx
      rcases hx with ⟨hx | hx, hx2⟩
      · exact eι x hx
      · have : b = σ0.length := by omega
        rw [hx, this, e0, this]
    have h1 : ∀ {u : VV} {w : Value}, s.R u w → lowP (fun x => decide (x < σ0.length) || x == b) u = true → low (σ0.length + 1) (ren1V b σ0.length u) = true → s1.R (ren1V b σ0.length u) w := by
      intro u w hu hl1 hl2
      cases u with
      | ptr b' o =>
        obtain ⟨a, ha, rfl⟩ := hu.ptr_inv
        simp only [ren1V] at hl2 ⊢
        split
        · rename_i he; subst he
          exact .ptr (by rw [e0]; exact ha)
        · rename_i he
          rw [if_neg he] at hl2
          exact hsame (.ptr ha) hl1 hl2
      | rs ag b' o n k f =>
        obtain ⟨a, ha, hf, hag, rfl⟩ := hu.rs_inv
        simp only [ren1V] at hl2 ⊢
        split
        · rename_i he; subst he
          exact .rs (by rw [e0]; exact ha) hf hag
        · rename_i he
          rw [if_neg he] at hl2
          exact hsame (.rs ha hf hag) hl1 hl2
      | _ => exact hsame hu hl1 hl2
    have hL : ∀ {us : List VV} {ws : List Value}, All2 s.R us ws → lowPL (fun x => decide (x < σ0.length) || x == b) us = true → lowPL (fun x => decide (x < σ0.length + 1)) (us.map (ren1V b σ0.length)) = true → All2 s1.R (us.map (ren1V b σ0.length)) ws := fun hh g1 g2 =>
      All2.map hh fun x w hx hxw => h1 hxw (lowPL_iff.1 g1 x hx) (lowPL_iff.1 g2 _ (List.mem_map_of_mem hx))
    have hres : s.R v w → s1.R (renVV b σ0.length v) w := by
      intro hu
      cases v with
      | fn f x y =>
        obtain ⟨a', b', rfl, g1, g2⟩ := hu.fn_inv
        simp only [renVV, low, lowP, Bool.and_eq_true] at hl1 hl2 ⊢
        have k1 := hL g1 hl1.1 hl2.1
        have k2 := hL g2 hl1.2 hl2.2
        exact .fn k1.1 k2.1 k1.2 k2.2
      | tup us =>
        obtain ⟨ws, rfl, g1⟩ := VR.tup_iff.1 hu
        simp only [renVV, low, lowP] at hl1 hl2 ⊢
        exact VR.tup_iff.2 ⟨ws, rfl, hL g1 hl1 hl2⟩
      | _ => exact h1 hu hl1 hl2
    rcases hv with hv | ⟨t', rfl, hv⟩
    · exact .c (hres hv)
    · cases hv with
      | c hh => exact .c (hres hh)
      | o hz he how hh =>
        simp only [renVV, ren1V] at hl2 ⊢
        refine .o hz he ?_ (hsame hh (by simpa [lowP] using hl1) (by simpa [low, lowP] using hl2))
        simp only [s1, how]; simp [finO]
  · refine ⟨by simp; omega, fun b hb => by simp at hb, fun b' hb' hl hn c1 lo1 op1 hc => ?_⟩
    simp only at hc
    rw [List.getElem?_append_left (by rw [htl]; exact hb'), List.getElem?_take_of_lt hb'] at hc
    exact h.ev.2.2 b' hb' hl (by rw [hev]; simp) c1 lo1 op1 hc

theorem frz1_low {h : Nat} {top : Bool} {v : VV} (hl : low h v = true) : frz1 h vs top v = v := by
  cases v with
  | rs ag b o n k f =>
    simp only [low, lowP, decide_eq_true_eq] at hl
    simp only [frz1]
    rw [if_neg (by omega)]
  | _ => rfl
theorem frz1_lows {h : Nat} {top : Bool} : ∀ {l : List VV}, lowL h l = true → l.map (frz1 h vs top) = l
  | [], _ => rfl
  | x :: l, hl => by
    simp only [lowL, lowPL, Bool.and_eq_true] at hl
    rw [List.map_cons, frz1_low hl.1, frz1_lows hl.2]
theorem frz_low {h : Nat} {v : VV} (hl : low h v = true) : frz h vs v = v := by
  cases v with
  | agg cs => simp only [low, lowP] at hl; simp only [frz]; rw [frz1_lows hl]
  | tup us =>
    simp only [low, lowP] at hl
    simp only [frz]
    congr 1
    induction us with
    | nil => rfl
    | cons x us ih =>
      simp only [lowPL, Bool.and_eq_true] at hl
      rw [List.map_cons, ih hl.2]
      congr 1
      cases x with
      | agg cs => have := hl.1; simp only [lowP] at this; simp only; rw [frz1_lows this]
      | _ => exact frz1_low (vs := vs) (top := false) hl.1
  | _ => exact frz1_low (vs := vs) (top := true) hl
theorem gc_simV (nf : Bool) (h : Cfg s0 σ0 α0 s vs as) (hv : ResOk s t v w) : EndOk s0 σ0 α0 (gcV nf σ0.length v vs).1 (gcV nf σ0.length v vs).2 as w := by
  have ht : vs.ev = [] → low σ0.length (if nf then v else frz σ0.length vs v) = true → EndOk s0 σ0 α0 (if nf then v else frz σ0.length vs v) ⟨vs.σ.take σ0.length, [], vs.wr⟩ as w := by
    intro hev hl
    cases nf with
    | true =>
      simp only [if_true] at hl ⊢
      have e : frz σ0.length vs v = v := frz_low hl
      have := end_take h hv hev (by rw [e]; exact hl)
      rw [e] at this
      exact this
    | false =>
      simp only [Bool.false_eq_true, if_false] at hl ⊢
      exact end_take h hv hev hl
  unfold gcV
  generalize (if nf then v else frz σ0.length vs v) = v' at ht ⊢
  split
  · rename_i hev
    have hall : EndOk s0 σ0 α0 v ⟨vs.σ, [], vs.wr⟩ as w := end_all h hv hev.symm
    split
    · rename_i hl
      exact ht hev hl
    · split
      · rename_i b hb
        split
        · rename_i c lo op hc
          split
          · rename_i hl
            simp only [Bool.and_eq_true, decide_eq_true_eq] at hl
            exact end_one h hv hev hc hl.1.1.2 hl.1.1.1 hl.1.2 hl.2
          · exact hall
        · exact hall
      · exact hall
  · exact end_all h hv rfl

/-! ### Results -/
theorem results_simV {os : List Nat} {fr : VFr} {fr' : Fr} (hR : Rel s vs.σ as.σ) (hF : FrOk s os fr fr') : ∀ {rs : List ResultVar} {l : List VV}, resultsLV P os fr vs rs = some l → ∃ ws, resultsL P fr' as rs = some ws ∧ All2 s.R l ws
  | [], l, h => by simp only [resultsLV, Option.some.injEq] at h; subst h; exact ⟨[], rfl, .nil⟩
  | r :: rs, l, h => by
    simp only [resultsLV, Option.bind_eq_some_iff, Option.some.injEq] at h
    obtain ⟨x, h1, l', h2, rfl⟩ := h
    obtain ⟨ws, k1, k2⟩ := results_simV hR hF h2
    have : ∃ w, results1 P fr' as r = some w ∧ s.R x w := by
      cases r with
      | tmp t =>
        simp only [result1V] at h1
        obtain ⟨w, g1, g2⟩ := opnd_simV hF h1
        exact ⟨w, g1, g2⟩
      | cell a t =>
        simp only [result1V, Option.bind_eq_some_iff] at h1
        obtain ⟨p, g1, g2⟩ := h1
        obtain ⟨pw, q1, q2⟩ := opnd_simV hF g1
        obtain ⟨w, q3, q4⟩ := load_simV hR g2 q2
        simp only [opnd] at q1
        exact ⟨w, by simp [results1, q1, q3], q4⟩
    obtain ⟨w, g1, g2⟩ := this
    exact ⟨w :: ws, by simp [resultsL, g1, k1], .cons g2 k2⟩
theorem notTup_sim {ι : Nat → Option Nat} {z : Nat → Option (List Value)} {lit : Nat → Prop} {x : VV} {y : Value} (h : VR ι z lit x y) (hn : notTupV x = true) : notTuple y = true := by
  cases h <;> first | rfl | (simp [notTupV] at hn; done) | skip
  rename_i hp
  cases y <;> first | rfl | (simp [plain1] at hp; done)
theorem notTups_sim {ι : Nat → Option Nat} {z : Nat → Option (List Value)} {lit : Nat → Prop} {xs : List VV} {ys : List Value} (h : All2 (VR ι z lit) xs ys) (hn : xs.all notTupV = true) : ys.all notTuple = true := by
  induction xs generalizing ys with
  | nil => rw [h.nil_inv]; rfl
  | cons x xs ih =>
    obtain ⟨y, b, rfl, h1, h2⟩ := h.cons_inv
    simp only [List.all_cons, Bool.and_eq_true] at hn ⊢
    exact ⟨notTup_sim h1 hn.1, ih h2 hn.2⟩
theorem ret_simV {os : List Nat} {fr : VFr} {fr' : Fr} (hR : Rel s vs.σ as.σ) (hF : FrOk s os fr fr') {rs : List ResultVar} {v : VV} (h : retVV P os rs fr vs = some v) : ∃ t w, retV P rs fr' as = some w ∧ ResOk s t v w := by
  unfold retVV at h
  split at h
  · rename_i t
    obtain ⟨w, k1, k2, _⟩ := hF t v h
    exact ⟨some t, w, by simp [retV, resultsL, results1, k1, retL], .inr ⟨t, rfl, k2⟩⟩
  · simp only [Option.bind_eq_some_iff] at h
    obtain ⟨l, h1, h2⟩ := h
    obtain ⟨ws, k1, k2⟩ := results_simV hR hF h1
    unfold retLV at h2
    split at h2
    · rename_i x
      cases h2
      obtain ⟨y, b, rfl, g1, g2⟩ := k2.cons_inv
      rw [g2.nil_inv] at k1
      exact ⟨none, y, by simp [retV, k1, retL], .inl g1⟩
    · rename_i hne
      split at h2
      · rename_i hn
        cases h2
        refine ⟨none, .tuple ws.toArray, ?_, .inl (VR.tup_iff.2 ⟨_, rfl, by simpa using k2⟩)⟩
        unfold retV
        rw [k1, Option.bind_some]
        unfold retL
        split
        · rename_i y
          cases l with
          | nil => have := k2.1; simp at this
          | cons x l => cases l with
            | nil => exact absurd rfl (hne x)
            | cons x2 l => have := k2.1; simp at this
        · rw [if_pos (notTups_sim k2 hn)]
      · cases h2

/-! ### Code -/
theorem lkV_killV {t : Nat} {v : VV} {fr : VFr} : ∀ {l : List Nat}, lkV t (killV l fr) = some v → t ∈ l ∧ lkV t fr = some v
  | [], h => by simp [killV, lkV] at h
  | u :: l, h => by
    unfold killV at h
    rw [List.filterMap_cons] at h
    cases hu : lkV u fr with
    | none =>
      rw [hu] at h
      obtain ⟨h1, h2⟩ := lkV_killV (l := l) h
      exact ⟨by simp [h1], h2⟩
    | some x =>
      rw [hu] at h
      simp only [Option.map_some, lkV] at h
      split at h
      · rename_i he; subst he; cases h; exact ⟨by simp, hu⟩
      · obtain ⟨h1, h2⟩ := lkV_killV (l := l) h
        exact ⟨by simp [h1], h2⟩
theorem FrOk.kill {os : List Nat} {fr : VFr} {fr' : Fr} (h : FrOk s os fr fr') (l : List Nat) : FrOk s os (killV l fr) (Ab.kill l fr') := by
  intro t v hv
  obtain ⟨h1, h2⟩ := lkV_killV hv
  obtain ⟨w, k1, k2, k3⟩ := h t v h2
  exact ⟨w, by rw [lk_kill_mem h1]; exact k1, k2, k3⟩

theorem itemsS_ok {L : Nat → List Nat} {id : Nat} {os : List Nat} {all : List Oper} : ∀ (l : List Oper) (i : Nat), All2 (ItemA all os) (itemsS L id os i l) (l.map fun o => (o, none))
  | [], _ => .nil
  | o :: l, i => .cons ⟨rfl, rfl, trivial⟩ (itemsS_ok l (i + 1))
theorem itemsD_ok {L : Nat → List Nat} {id : Nat} {os : List Nat} {ops : List Oper} {anc : List (List Nat)} : ∀ (r c : List Nat) (its : List Item), itemsD L id os ops anc c r = some its → ∃ xs, itemsA ops anc c r = some xs ∧ All2 (ItemA ops os) its xs
  | [], c, its, h => by simp only [itemsD, Option.some.injEq] at h; subst h; exact ⟨[], rfl, .nil⟩
  | i :: r, c, its, h => by
    simp only [itemsD] at h
    split at h
    · rename_i o ho
      simp only [Option.bind_eq_some_iff, Option.map_eq_some_iff] at h
      obtain ⟨fl, h1, its', h2, rfl⟩ := h
      obtain ⟨xs, k1, k2⟩ := itemsD_ok r _ its' h2
      refine ⟨(o, some (floats ops anc c i)) :: xs, by simp [itemsA, ho, k1], .cons ⟨rfl, rfl, ?_⟩ k2⟩
      split at h1
      · exact .inr h1
      · rename_i hs; exact .inl (by simpa using hs)
    · cases h

/-- What holds where the continuation is asked. -/
def KOkV (s0 : St) (σ0 : List VObj) (α0 : List AObj) (os : List Nat) (k : VKC) (k' : KC) (out : VOut) (Q : Out → Prop) : Prop :=
  ∀ c fr vs s fr' as, k c fr vs = some out → Cfg s0 σ0 α0 s vs as → FrOk s os fr fr' → ∃ out', k' c fr' as = some out' ∧ Q out'

theorem exec_simV {C : VOracle} {C' : Oracle} (hC : OrOk C C') {n : Nat} {L : Nat → List Nat} {h' nt : Nat} {out : VOut} {Q : Out → Prop} : ∀ (code : Code) (fr : VFr) (vs : VS) (s : St) (fr' : Fr) (as : S) (k : VKC) (k' : KC),
    execV P C (iterNV n) L σ0.length nt code fr vs k = some out → Cfg s0 σ0 α0 s vs as → FrOk s (L 40000) fr fr' → KOkV s0 σ0 α0 (L 40000) k k' out Q → ∃ out', exec P C' (iterN n) L h' nt code fr' as k' = some out' ∧ Q out'
  | .skip, fr, vs, s, fr', as, k, k', h, hc, hF, hk => hk .norm _ _ _ _ _ h hc hF
  | .label _, fr, vs, s, fr', as, k, k', h, hc, hF, hk => hk .norm _ _ _ _ _ h hc hF
  | .region id ops draw, fr, vs, s, fr', as, k, k', h, hc, hF, hk => by
    simp only [execV] at h
    simp only [exec]
    cases draw with
    | true =>
      simp only [if_true] at h ⊢
      unfold evalDrawV at h
      split at h
      · rename_i hd
        simp only [Option.bind_eq_some_iff] at h
        obtain ⟨its, h1, h⟩ := h
        obtain ⟨xs, g1, g2⟩ := itemsD_ok _ _ _ h1
        obtain ⟨fr1, vs1, fr1', as1, s1, ws, q1, q2, q3, q4, q5, q6, q7⟩ := evalR_simV hC (h' := h') (blks [] its) xs (oneOk_blks _ _) (by rw [unBlk_blks]; exact g2) fr fr' vs as s _ out h hc.rel hF
        obtain ⟨out', p1, p2⟩ := hk .norm _ _ _ _ _ q1 (hc.step q3 q5 q6 q7) q4
        refine ⟨out', ?_, p2⟩
        unfold evalDraw0
        rw [hd]
        show evalDraw _ _ _ _ _ _ _ _ _ _ _ = _
        rw [evalA_draw _ _ _ _ _ g1, q2]; exact p1
      · cases h
    | false =>
      simp only [Bool.false_eq_true, if_false] at h ⊢
      obtain ⟨fr1, vs1, fr1', as1, s1, ws, q1, q2, q3, q4, q5, q6, q7⟩ := evalR_simV hC (h' := h') (blks [] (itemsS L id (L 40000) 0 ops.toList)) _ (oneOk_blks _ _) (by rw [unBlk_blks]; exact itemsS_ok _ _) fr fr' vs as s _ out h hc.rel hF
      obtain ⟨out', p1, p2⟩ := hk .norm _ _ _ _ _ q1 (hc.step q3 q5 q6 q7) q4
      exact ⟨out', by rw [evalA_ops, q2]; exact p1, p2⟩
  | .seq x y, fr, vs, s, fr', as, k, k', h, hc, hF, hk => by
    simp only [execV] at h
    simp only [exec]
    refine exec_simV hC x fr vs s fr' as _ _ h hc hF fun c fr1 vs1 s1 fr1' as1 hk1 hc1 hF1 => ?_
    cases c with
    | norm => exact exec_simV hC y _ _ _ _ _ _ _ hk1 hc1 hF1 hk
    | ret => exact hk .ret _ _ _ _ _ hk1 hc1 hF1
    | exit id => exact hk (.exit id) _ _ _ _ _ hk1 hc1 hF1
  | .cond c x y, fr, vs, s, fr', as, k, k', h, hc, hF, hk => by
    simp only [execV, Option.bind_eq_some_iff] at h
    obtain ⟨v, h1, h⟩ := h
    simp only [exec]
    obtain ⟨w, g1, g2⟩ := opnd_simV hF h1
    unfold ifVV at h
    split at h
    · rename_i t
      obtain ⟨rfl, _⟩ := g2.p_inv
      rw [g1, Option.bind_some]
      unfold ifV
      cases t with
      | true => simp only [if_true] at h ⊢; exact exec_simV hC x _ _ _ _ _ _ _ h hc hF hk
      | false => simp only [Bool.false_eq_true, if_false] at h ⊢; exact exec_simV hC y _ _ _ _ _ _ _ h hc hF hk
    · cases h
  | .block id x, fr, vs, s, fr', as, k, k', h, hc, hF, hk => by
    simp only [execV] at h
    simp only [exec]
    refine exec_simV hC x fr vs s fr' as _ _ h hc hF fun c fr1 vs1 s1 fr1' as1 hk1 hc1 hF1 => ?_
    cases c with
    | norm => exact hk .norm _ _ _ _ _ hk1 hc1 hF1
    | ret => exact hk .ret _ _ _ _ _ hk1 hc1 hF1
    | exit i =>
      simp only [kBlockV] at hk1
      simp only [kBlock]
      split
      · rename_i hi; rw [if_pos hi] at hk1; exact hk .norm _ _ _ _ _ hk1 hc1 hF1
      · rename_i hi; rw [if_neg hi] at hk1; exact hk (.exit i) _ _ _ _ _ hk1 hc1 hF1
  | .loop x, fr, vs, s, fr', as, k, k', h, hc, hF, hk => by
    simp only [execV] at h
    simp only [exec]
    have key : ∀ m fr vs s fr' as, iterNV m (fun self fr s => execV P C (iterNV n) L σ0.length nt x fr s (kLoopV (L (firstReg x)) (L (10000 + firstReg x)) self k)) fr vs = some out → Cfg s0 σ0 α0 s vs as → FrOk s (L 40000) fr fr' →
        ∃ out', iterN m (fun self fr s => exec P C' (iterN n) L h' nt x fr s (kLoop (L (firstReg x)) (L (10000 + firstReg x)) self k')) fr' as = some out' ∧ Q out' := by
      intro m
      induction m with
      | zero => intro fr vs s fr' as h; simp [iterNV] at h
      | succ m ih =>
        intro fr vs s fr' as h hc hF
        simp only [iterNV] at h
        simp only [iterN]
        refine exec_simV hC x fr vs s fr' as _ _ h hc hF fun c fr1 vs1 s1 fr1' as1 hk1 hc1 hF1 => ?_
        cases c with
        | norm => exact ih _ _ _ _ _ hk1 hc1 (hF1.kill _)
        | ret => exact hk .ret _ _ _ _ _ hk1 hc1 (hF1.kill _)
        | exit i => exact hk (.exit i) _ _ _ _ _ hk1 hc1 (hF1.kill _)
    exact key n _ _ _ _ _ h hc (hF.kill _)
  | .exit id, fr, vs, s, fr', as, k, k', h, hc, hF, hk => hk (.exit id) _ _ _ _ _ h hc hF
  | .ret, fr, vs, s, fr', as, k, k', h, hc, hF, hk => hk .ret _ _ _ _ _ h hc hF
  | .rangeFunc .., fr, vs, s, fr', as, k, k', h, hc, hF, hk => by simp [execV] at h
  | .scope _, fr, vs, s, fr', as, k, k', h, hc, hF, hk => by simp [execV] at h
  | .goto _, fr, vs, s, fr', as, k, k', h, hc, hF, hk => by simp [execV] at h
  | .refuse _, fr, vs, s, fr', as, k, k', h, hc, hF, hk => by simp [execV] at h

theorem lkV_zip {t : Nat} {v : VV} : ∀ (l : List VV) (k : Nat), lkV t ((l.zipIdx k).map fun (v, i) => (i, v)) = some v → k ≤ t ∧ l[t - k]? = some v
  | [], k, h => by simp [lkV] at h
  | x :: l, k, h => by
    simp only [List.zipIdx_cons, List.map_cons, lkV] at h
    by_cases hk : k = t
    · subst hk
      rw [if_pos rfl] at h
      cases h
      exact ⟨Nat.le_refl _, by simp⟩
    · rw [if_neg hk] at h
      obtain ⟨h1, h2⟩ := lkV_zip l (k + 1) h
      refine ⟨by omega, ?_⟩
      rw [show t - k = (t - (k + 1)) + 1 by omega]
      simpa using h2
theorem lk_zip' {w : Value} : ∀ (l : List Value) (k t : Nat), k ≤ t → l[t - k]? = some w → lk t ((l.zipIdx k).map fun (v, i) => (i, v)) = some w
  | [], k, t, _, h => by simp at h
  | x :: l, k, t, hk, h => by
    simp only [List.zipIdx_cons, List.map_cons, lk]
    by_cases hkt : k = t
    · subst hkt
      rw [if_pos rfl]
      simpa using h
    · rw [if_neg hkt]
      refine lk_zip' l (k + 1) t (by omega) ?_
      rw [show t - k = (t - (k + 1)) + 1 by omega] at h
      simpa using h

theorem body_simV {C : VOracle} {C' : Oracle} (hC : OrOk C C') {n : Nat} {H : FuncId → Nat → List Nat} : OrOk (bodyV P C (iterNV n) H) (bodyOf P C' (iterN n) H) := by
  intro f args σ v vs1 h s α ws hR how hargs
  unfold bodyV at h
  unfold bodyOf
  split at h
  · rename_i fn hfn
    rw [hfn]
    simp only
    split at h
    · rename_i c hc
      rw [hc]
      simp only
      split at h
      · rename_i hnt
        rw [if_pos (by rw [← hargs.1]; exact hnt)]
        have hF : FrOk s (H f 40000) (enterV args) (enterFr ws) := by
          intro t u hu
          have h1 := (lkV_zip args 0 hu).2
          simp at h1
          obtain ⟨w, k1, k2⟩ := hargs.get h1
          exact ⟨w, lk_zip' ws 0 t (Nat.zero_le _) (by simpa using k1), .c k2, fun _ => k2⟩
        have hcfg : Cfg s σ α s ⟨σ, [], []⟩ ⟨α, []⟩ := ⟨hR, hR, ⟨[], Ex.refl _ _ _ _, fun b hb => by simp at hb⟩, .refl _ _⟩
        obtain ⟨out', k1, k2⟩ := exec_simV (P := P) (s0 := s) (σ0 := σ) (α0 := α) hC (L := H f) (h' := α.length) (nt := fn.ntmps) (out := (v, vs1)) (k' := kRet P fn.results.toList α.length)
          (Q := fun out' => EndOk s σ α v vs1 out'.2 out'.1) c _ _ s _ ⟨α, []⟩ _ h hcfg hF (by
            intro ctl fr vs s1 fr' as hk hcf hF1
            have hk' : (retVV P (H f 40000) fn.results.toList fr vs).bind (fun v => some (gcV (!(H f 70000).isEmpty) σ.length v vs)) = some (v, vs1) ∧ (ctl = .norm ∨ ctl = .ret) := by
              cases ctl with
              | norm => exact ⟨hk, .inl rfl⟩
              | ret => exact ⟨hk, .inr rfl⟩
              | exit id => cases hk
            obtain ⟨hk', hctl⟩ := hk'
            simp only [Option.bind_eq_some_iff, Option.some.injEq] at hk'
            obtain ⟨u, h1, h2⟩ := hk'
            obtain ⟨t, w, g1, g2⟩ := ret_simV hcf.rel hF1 h1
            have g3 := gc_simV (!(H f 70000).isEmpty) hcf g2
            rw [h2] at g3
            refine ⟨gc α.length w as, ?_, g3⟩
            rcases hctl with rfl | rfl <;> simp only [kRet, g1, Option.bind_some])
        obtain ⟨s1, q1, q2, q3, q4, q5⟩ := k2
        exact ⟨out'.1, out'.2, s1, k1, q1, q2, q3, q4, q5⟩
      · cases h
    · cases h
  · cases h

/-- What is asked of a contract that stands in for a function's text. -/
def StandV (g : List VV → List VObj → Option VOut) (g' : List Value → List AObj → Option Out) : Prop := OrOk (fun _ args σ => g args σ) (fun _ args σ => g' args σ)
/-- **The calls of the machine of values are those of the abstract machine.** -/
theorem callN_simV {X : FuncId → Option (List VV → List VObj → Option VOut)} {X' : FuncId → Option (List Value → List AObj → Option Out)} (hX : ∀ f, match X f, X' f with | none, none => True | some g, some g' => StandV g g' | _, _ => False) {H : FuncId → Nat → List Nat} :
    ∀ n, OrOk (callNV P X H n) (callN P X' H n)
  | 0 => fun f args σ v s' h => by simp [callNV] at h
  | n + 1 => fun f args σ v vs1 h s α ws hR how hargs => by
    have hx := hX f
    simp only [callNV] at h
    simp only [callN]
    cases hg : X f with
    | some g =>
      rw [hg] at h hx
      cases hg' : X' f with
      | some g' =>
        rw [hg'] at hx
        exact hx f args σ v vs1 h s α ws hR how hargs
      | none => rw [hg'] at hx; exact hx.elim
    | none =>
      rw [hg] at h hx
      cases hg' : X' f with
      | some g' => rw [hg'] at hx; exact hx.elim
      | none => exact body_simV (callN_simV hX n) f args σ v vs1 h s α ws hR how hargs
end
end Go.Vm
#print axioms Go.Vm.callN_simV
