/-
  Regions and code, from the machine of values to the abstract machine.
-/
import Derived.Test.YtkpamaplmjlagaaVSim
namespace Go.Vm
open Go Go.Ab
set_option linter.unusedVariables false

section
variable {P : Program} {os : List Nat}

/-- The abstract machine's regions, of both kinds. -/
def chkA (all : List Oper) (o : Oper) (fl : Option (List Nat)) (fr : Fr) (s s' : S) : Bool := match fl with | none => true | some l => !isSpine o || floatOk all fr s s' l
def evalA (P : Program) (C : Oracle) (h nt : Nat) (all : List Oper) : List (Oper × Option (List Nat)) → Fr → S → KF → Option Out
  | [], fr, s, k => k fr s
  | x :: r, fr, s, k =>
    if dstOk nt x.1.dst then
      match x.1.guard with
      | none => evalOp P C h x.1 fr s fun v s' => onB (chkA all x.1 x.2 fr s s') (evalA P C h nt all r (putF fr x.1.dst v) s' k)
      | some _ => (wants all x.1 fr).bind fun g =>
          (if g then evalOp P C h x.1 fr s (fun v s => some (v, s)) else some (undef, s)).bind fun y => onB (chkA all x.1 x.2 fr s y.2) (evalA P C h nt all r (putF fr x.1.dst y.1) y.2 k)
    else none
theorem evalA_ops {C : Oracle} {h nt : Nat} {all : List Oper} {k : KF} : ∀ (l : List Oper) (fr : Fr) (s : S), evalOps P C h nt all l fr s k = evalA P C h nt all (l.map fun o => (o, none)) fr s k
  | [], _, _ => rfl
  | o :: l, fr, s => by
    simp only [evalOps, evalA, List.map_cons, chkA]
    split
    · cases hg : o.guard with
      | none => simp only; congr 1; funext v s'; exact evalA_ops l _ _
      | some g => simp only; congr 1; funext g; congr 1; funext y; exact evalA_ops l _ _
    · rfl
def itemsA (ops : List Oper) (anc : List (List Nat)) : List Nat → List Nat → Option (List (Oper × Option (List Nat)))
  | _, [] => some []
  | c, i :: r => match ops[i]? with
    | some o => (itemsA ops anc (c ++ [i]) r).map ((o, some (floats ops anc c i)) :: ·)
    | none => none
theorem evalA_draw {C : Oracle} {h nt : Nat} {ops : List Oper} {anc : List (List Nat)} {k : KF} : ∀ (r c : List Nat) (xs : List (Oper × Option (List Nat))) (fr : Fr) (s : S), itemsA ops anc c r = some xs → evalDraw P C h nt ops anc c r fr s k = evalA P C h nt ops xs fr s k
  | [], c, xs, fr, s, h => by simp only [itemsA, Option.some.injEq] at h; subst h; rfl
  | i :: r, c, xs, fr, s, h => by
    simp only [itemsA] at h
    split at h
    · rename_i o ho
      simp only [Option.map_eq_some_iff] at h
      obtain ⟨ys, h1, rfl⟩ := h
      simp only [evalDraw, ho, evalA, chkA]
      split
      · cases hg : o.guard with
        | none => simp only; congr 1; funext v s'; rw [evalA_draw r _ ys _ _ h1]
        | some g => simp only; congr 1; funext g; congr 1; funext y; rw [evalA_draw r _ ys _ _ h1]
      · rfl
    · cases h

def modeOk (os : List Nat) (m : Mode) (o : Oper) : Prop := m.od = (match o.dst with | some d => os.contains d | none => false)
def ItemA (all : List Oper) (os : List Nat) (it : Item) (x : Oper × Option (List Nat)) : Prop := it.o = x.1 ∧ modeOk os it.m it.o ∧ match x.2 with | none => True | some l => isSpine it.o = false ∨ flOps all l = some it.fl

theorem eqvL_refl : ∀ {l : List Value}, l.all refl1 = true → eqvL l l = true
  | [], _ => rfl
  | x :: l, h => by
    simp only [List.all_cons, Bool.and_eq_true] at h
    simp only [eqvL, Bool.and_eq_true]
    exact ⟨h.1, eqvL_refl h.2⟩

theorem rows_refl {s : St} {σ : List VObj} {α : List AObj} (hR : Rel s σ α) {vs : VS} (hσ : vs.σ = σ) {b a : Nat} (ha : s.ι b = some a) (h : ((rowV vs b).map fun c => c.all simpleV).getD false = true) : ∃ r lo op, α[a]? = some (.arr r lo op) ∧ r.all refl1 = true := by
  subst hσ
  cases hr : rowV vs b with
  | none => rw [hr] at h; simp at h
  | some c =>
    rw [hr] at h
    simp at h
    obtain ⟨lo, op, h1⟩ := rowV_some hr
    obtain ⟨a', c', lo', op', g1, g2, _, _, g3, g4⟩ := hR.obj _ _ _ _ h1
    rw [ha] at g1; cases g1
    refine ⟨c', lo', op', g2, ?_⟩
    have hcl := cells_cls (b := b) g3 g4
    refine all_refl hcl ?_
    rw [List.all_eq_true]
    intro x hx
    rw [List.mem_map] at hx
    obtain ⟨y, hy, rfl⟩ := hx
    rw [simpleV_cls]; exact h y hy

theorem flOk1_load {s s1 : St} {vs vs1 : VS} {as as1 : S} {ws : List Nat} {F : Loc → Prop} (hR : Rel s vs.σ as.σ) (hR1 : Rel s1 vs1.σ as1.σ) (hE : Ex F s vs.σ as.σ s1 vs1.σ as1.σ ws) {v : VV} {w : Value} (hv : s.R v w) (h : flOk1 vs ws false v = true) : sameL as as1 w = true := by
  have hz : ∀ a r, s.z a = some r → sameRow as as1 a = true := by
    intro a r hz
    obtain ⟨lo, op, k1, k2⟩ := hR.zrow _ _ hz
    obtain ⟨lo1, op1, k3, _⟩ := hR1.zrow _ _ (hE.z _ _ hz)
    unfold sameRow
    rw [k1, k3]; exact eqvL_refl k2
  have hp : ∀ b a, s.ι b = some a → (!ws.contains b && ((rowV vs b).map fun c => c.all simpleV).getD false) = true → sameRow as as1 a = true := by
    intro b a ha h
    simp only [Bool.and_eq_true] at h
    obtain ⟨r, lo, op, k1, k2⟩ := rows_refl hR rfl ha h.2
    have := hE.keep b a (by simpa using h.1) ha
    unfold sameRow
    rw [this, k1]; exact eqvL_refl k2
  cases hv with
  | p hp' => cases w <;> first | rfl | (rename_i a; cases a <;> first | rfl | (simp [plain1] at hp'; done)) | (rename_i a _ _; cases a <;> first | rfl | (simp [plain1] at hp'; done))
  | ptr ha => exact hp _ _ ha h
  | rs ha hf hag => exact hp _ _ ha h
  | sl hzz hl hc hf hk hlen hes => exact hz _ _ hzz
  | pt hzz hl hv => exact hz _ _ hzz
  | agg hl h => rfl
  | fn ha hb h k => rfl
  | tup hl h => rfl
theorem flOk1_maker {s s1 : St} {vs vs1 : VS} {as as1 : S} {ws : List Nat} {F : Loc → Prop} (hR : Rel s vs.σ as.σ) (hR1 : Rel s1 vs1.σ as1.σ) (hE : Ex F s vs.σ as.σ s1 vs1.σ as1.σ ws) {v : VV} {w : Value} (hv : s.R v w) (h : flOk1 vs ws true v = true) : sameM as as1 w = true := by
  have hp : ∀ b a, s.ι b = some a → (!ws.contains b && ((rowV vs b).map fun c => c.all simpleV).getD false) = true → sameObj as as1 a = true := by
    intro b a ha h
    simp only [Bool.and_eq_true] at h
    obtain ⟨r, lo, op, k1, k2⟩ := rows_refl hR rfl ha h.2
    have := hE.keep b a (by simpa using h.1) ha
    unfold sameObj
    rw [this, k1]; simp [eqvL_refl k2]
  cases hv with
  | p hp' => cases w <;> first | rfl | (rename_i a; cases a <;> first | rfl | (simp [plain1] at hp'; done)) | (rename_i a _ _; cases a <;> first | rfl | (simp [plain1] at hp'; done))
  | ptr ha => exact hp _ _ ha h
  | rs ha hf hag => exact hp _ _ ha h
  | sl hzz hl hc hf hk hlen hes =>
    rename_i f k es a o c r
    have hf1 : f = 1 := by simpa [flOk1] using h
    subst hf1
    have hlit : s.lit a := by
      rcases hf with h | ⟨_, _, h⟩ | ⟨h, _⟩
      · omega
      · exact h
      · omega
    obtain ⟨lo, op, k1, k2⟩ := hR.zrow _ _ hzz
    have := hE.zobj _ _ hzz (.inl hlit)
    show sameObj as as1 a = true
    unfold sameObj
    rw [this, k1]; simp [eqvL_refl k2]
  | pt hzz hl hv => simp [flOk1] at h
  | agg hl h => rfl
  | fn ha hb h k => rfl
  | tup hl h => rfl
theorem floats_sim {all : List Oper} {s s1 : St} {vs vs1 : VS} {as as1 : S} {ws : List Nat} {F : Loc → Prop} {fr : VFr} {fr' : Fr} (hR : Rel s vs.σ as.σ) (hR1 : Rel s1 vs1.σ as1.σ) (hE : Ex F s vs.σ as.σ s1 vs1.σ as1.σ ws) (hF : FrOk s os fr fr') :
    ∀ {l : List Nat} {fl : List (Operand × Bool)}, flOps all l = some fl → flOk os fr vs ws fl = true → floatOk all fr' as as1 l = true
  | [], fl, _, _ => rfl
  | i :: l, fl, h, hk => by
    simp only [flOps] at h
    split at h
    · rename_i o ho
      split at h
      · rename_i a ha
        simp only [Option.map_eq_some_iff] at h
        obtain ⟨fl', h1, rfl⟩ := h
        simp only [flOk, Bool.and_eq_true] at hk
        simp only [floatOk, ho, ha, Bool.and_eq_true]
        refine ⟨?_, floats_sim hR hR1 hE hF h1 hk.2⟩
        have hk1 := hk.1
        split at hk1
        · rename_i v hv
          obtain ⟨w, k1, k2⟩ := opnd_simV hF hv
          rw [k1]; exact flOk1_load hR hR1 hE k2 hk1
        · cases hk1
      · rename_i ha
        split at h
        · rename_i t ht
          simp only [Option.map_eq_some_iff] at h
          obtain ⟨fl', h1, rfl⟩ := h
          simp only [flOk, Bool.and_eq_true] at hk
          simp only [floatOk, ho, ha, ht, Bool.and_eq_true]
          refine ⟨?_, floats_sim hR hR1 hE hF h1 hk.2⟩
          have hk1 := hk.1
          split at hk1
          · rename_i v hv
            obtain ⟨w, k1, k2⟩ := opnd_simV hF hv
            simp only [opnd] at k1
            rw [k1]; exact flOk1_maker hR hR1 hE k2 hk1
          · cases hk1
        · cases h
    · cases h
theorem chk_sim {all : List Oper} {it : Item} {x : Oper × Option (List Nat)} (hi : ItemA all os it x) {s s1 : St} {vs vs1 : VS} {as as1 : S} {ws : List Nat} {F : Loc → Prop} {fr : VFr} {fr' : Fr} (hR : Rel s vs.σ as.σ) (hR1 : Rel s1 vs1.σ as1.σ) (hE : Ex F s vs.σ as.σ s1 vs1.σ as1.σ ws) (hF : FrOk s os fr fr')
    (h : flOk os fr vs ws it.fl = true) : chkA all x.1 x.2 fr' as as1 = true := by
  obtain ⟨h1, _, h2⟩ := hi
  unfold chkA
  split
  · rfl
  · rename_i l hl
    rw [hl] at h2
    simp only at h2
    rcases h2 with h2 | h2
    · rw [← h1, h2]; rfl
    · rw [floats_sim hR hR1 hE hF h2 h]; simp
theorem onV_some {β : Type} {b : Bool} {x : Option β} {r : β} (h : onV b x = some r) : b = true ∧ x = some r := by
  cases b with
  | true => exact ⟨rfl, h⟩
  | false => cases h
theorem brB_some {β : Type} {v : VV} {a b : Option β} {r : β} (h : brB v a b = some r) : (v = VB true ∧ a = some r) ∨ (v = VB false ∧ b = some r) := by
  unfold brB at h
  split at h
  · exact .inl ⟨rfl, h⟩
  · exact .inr ⟨rfl, h⟩
  · cases h

/-- A value is put into its slot. -/
theorem put_simV {s : St} {σ : List VObj} {α : List AObj} (hR : Rel s σ α) {fr : VFr} {fr' : Fr} (hF : FrOk s os fr fr') {v : VV} {w : Value} {m : Mode} {o : Oper} (hm : modeOk os m o) (hv : VT s .res v w) (hc : m.od = false → s.R v w) :
    ∃ s1, Rel s1 σ α ∧ Ex Loc.fix s σ α s1 σ α [] ∧ FrOk s1 os (putV fr o.dst v) (putF fr' o.dst w) := by
  cases hd : o.dst with
  | none => exact ⟨s, hR, Ex.refl _ _ _ _, hF⟩
  | some d =>
    let s1 : St := { s with ow := fun a => if s.ow a = some .res then some (.slot d) else s.ow a }
    have o1 : ∀ a L, s.ow a = some L → L ≠ .res → s1.ow a = some L := fun a L hL hne => by simp only [s1]; rw [if_neg (by rw [hL]; exact fun h => hne (Option.some.inj h))]; exact hL
    have o2 : ∀ a L, s1.ow a = some L → ∃ L', s.ow a = some L' := fun a L hL => by
      simp only [s1] at hL
      split at hL
      · exact ⟨_, by assumption⟩
      · exact ⟨_, hL⟩
    have hvo : ∀ {L : Loc} {u : VV} {w : Value}, L ≠ .res → VT s L u w → VT s1 L u w := by
      intro L u w hL hu
      cases hu with
      | c h => exact .c h
      | o hz he how h => exact .o hz he (o1 _ _ how hL) h
    refine ⟨s1, ?_, ⟨fun _ _ h => h, fun _ h => h, fun _ _ => rfl, Nat.le_refl _, Nat.le_refl _, fun a L hL hf => o1 a L hL (by rintro rfl; exact hf), fun _ _ _ _ => rfl, fun _ _ _ _ => rfl⟩, ?_⟩
    · refine ⟨hR.dom, hR.inj, fun b c lo op hb => ?_, hR.zrow, hR.zi, fun a L hL => ?_, hR.litz⟩
      · obtain ⟨a2, c2, lo2, op2, p1, p2, p3, p4, p5, p6⟩ := hR.obj _ _ _ _ hb
        exact ⟨a2, c2, lo2, op2, p1, p2, p3, p4, p5, fun j x w hx hw => hvo (by simp) (p6 j x w hx hw)⟩
      · obtain ⟨L', hL'⟩ := o2 a L hL
        exact hR.own a L' hL'
    · intro t u hu
      simp only [putV, lkV] at hu
      split at hu
      · rename_i he
        subst he
        cases hu
        refine ⟨w, by simp [putF, lk], ?_, fun ho => ?_⟩
        · cases hv with
          | c h => exact .c h
          | o hz he how h => exact .o hz he (by simp only [s1]; rw [if_pos how]) h
        · exact hc (by unfold modeOk at hm; rw [hd] at hm; rw [hm]; exact ho)
      · rename_i hne
        obtain ⟨w', q1, q2, q3⟩ := hF t u hu
        exact ⟨w', by simp only [putF, lk]; rw [if_neg hne]; exact q1, hvo (by simp) q2, q3⟩
theorem lk_put_ne {fr' : Fr} {dst : Option Nat} {w : Value} {t : Nat} (h : dst ≠ some t) : lk t (putF fr' dst w) = lk t fr' := by
  cases dst with
  | none => rfl
  | some d => simp only [putF, lk]; rw [if_neg (fun e => h (by rw [e]))]

/-- One operation, and its slot. -/
theorem step_simV {β : Type} {C : VOracle} {C' : Oracle} (hC : OrOk C C') {h' hb : Nat} {all : List Oper} {it : Item} {x : Oper × Option (List Nat)} (hi : ItemA all os it x) {s : St} {vs : VS} {as : S} {fr : VFr} {fr' : Fr} {K : VFr → VS → Option β} {out : β}
    (h : evalOpV P C hb os it.m it.o fr vs (fun v fr1 s1 ws => onV (flOk os fr vs ws it.fl) (K (putV fr1 it.o.dst v) s1)) = some out) (hR : Rel s vs.σ as.σ) (hF : FrOk s os fr fr') :
    ∃ fr1 vs1 ws w as1 s1, K fr1 vs1 = some out ∧ (∀ k' : K1, evalOp P C' h' x.1 fr' as k' = k' w as1) ∧ chkA all x.1 x.2 fr' as as1 = true ∧ Rel s1 vs1.σ as1.σ ∧ Ex (modeF it.m) s vs.σ as.σ s1 vs1.σ as1.σ ws ∧ FrOk s1 os fr1 (putF fr' x.1.dst w) ∧ EvOk hb vs vs1 ∧ WrOk hb ws vs vs1 := by
  obtain ⟨v, fr1, vs1, ws, w, as1, s1, h1, h2, h3, h4, h5, h6, h7, h8, h9⟩ := evalOp_simV (h' := h') hC h hR hF
  obtain ⟨g1, g2⟩ := onV_some h1
  obtain ⟨s2, k1, k2, k3⟩ := put_simV h3 h5 hi.2.1 h6 h7
  rw [hi.1] at h2
  exact ⟨_, vs1, ws, w, as1, s2, g2, h2, chk_sim hi hR h3 h4 hF g1, k1, (h4.trans hR (k2.weaken (fix_mode _))).ws (by simp), by rw [← hi.1]; exact k3, h8, h9⟩

def dstsOf (its : List Item) (t : Nat) : Prop := ∃ it ∈ its, it.o.dst = some t

theorem evalG_simV {β : Type} {C : VOracle} {C' : Oracle} (hC : OrOk C C') {h' hb nt : Nat} {all : List Oper} : ∀ (its : List Item) (xs : List (Oper × Option (List Nat))), All2 (ItemA all os) its xs → ∀ (sk : List Nat) (fr : VFr) (fr' : Fr) (vs : VS) (as : S) (s : St) (K : VFr → VS → Option β) (out : β),
    evalG P C hb nt os all sk its fr vs K = some out → Rel s vs.σ as.σ → FrOk s os fr fr' → (∀ t ∈ sk, lk t fr' = some undef) →
    ∃ fr1 vs1 fr1' as1 s1 ws, K fr1 vs1 = some out ∧ (∀ ys k', evalA P C' h' nt all (xs ++ ys) fr' as k' = evalA P C' h' nt all ys fr1' as1 k') ∧ Rel s1 vs1.σ as1.σ ∧ FrOk s1 os fr1 fr1' ∧ Ex Loc.fix s vs.σ as.σ s1 vs1.σ as1.σ ws ∧ EvOk hb vs vs1 ∧ WrOk hb ws vs vs1 ∧
      ∀ t, ¬dstsOf its t → lk t fr1' = lk t fr'
  | [], xs, hx, sk, fr, fr', vs, as, s, K, out, h, hR, hF, hsk => by
    rw [hx.nil_inv]
    exact ⟨fr, vs, fr', as, s, [], h, fun _ _ => rfl, hR, hF, Ex.refl _ _ _ _, .refl _ _, .nil rfl, fun _ _ => rfl⟩
  | it :: its, xs, hx, sk, fr, fr', vs, as, s, K, out, h, hR, hF, hsk => by
    obtain ⟨x, xs, rfl, hi, hxs⟩ := hx.cons_inv
    simp only [evalG] at h
    split at h
    case isFalse => cases h
    rename_i hc
    simp only [Bool.and_eq_true] at hc
    obtain ⟨⟨hd, hns⟩, htk⟩ := hc
    have htk : it.m.tk = false := by simpa using htk
    have hmode : ∀ L, Loc.fix L → modeF it.m L := fun L h => by unfold modeF; rw [htk]; exact h
    have hd' : dstOk nt x.1.dst = true := by rw [← hi.1]; exact hd
    -- what is carried out
    have run : ∀ {fr2 : VFr}, FrOk s os fr2 fr' → (evalOpV P C hb os it.m it.o fr2 vs fun v fr1 s1 ws => onV (flOk os fr vs ws it.fl) (evalG P C hb nt os all sk its (putV fr1 it.o.dst v) s1 K)) = some out → (∀ t v, lkV t fr = some v → ∃ v', lkV t fr2 = some v') →
        (∀ ys k', (∃ w as1, (∀ k1 : K1, evalOp P C' h' x.1 fr' as k1 = k1 w as1) ∧ evalA P C' h' nt all ((x :: xs) ++ ys) fr' as k' = onB (chkA all x.1 x.2 fr' as as1) (evalA P C' h' nt all (xs ++ ys) (putF fr' x.1.dst w) as1 k')) ∨ True) →
        (∀ w as1, (∀ k1 : K1, evalOp P C' h' x.1 fr' as k1 = k1 w as1) → ∀ ys k', evalA P C' h' nt all ((x :: xs) ++ ys) fr' as k' = onB (chkA all x.1 x.2 fr' as as1) (evalA P C' h' nt all (xs ++ ys) (putF fr' x.1.dst w) as1 k')) →
        ∃ fr1 vs1 fr1' as1 s1 ws, K fr1 vs1 = some out ∧ (∀ ys k', evalA P C' h' nt all ((x :: xs) ++ ys) fr' as k' = evalA P C' h' nt all ys fr1' as1 k') ∧ Rel s1 vs1.σ as1.σ ∧ FrOk s1 os fr1 fr1' ∧ Ex Loc.fix s vs.σ as.σ s1 vs1.σ as1.σ ws ∧ EvOk hb vs vs1 ∧ WrOk hb ws vs vs1 ∧
          ∀ t, ¬dstsOf (it :: its) t → lk t fr1' = lk t fr' := by
      intro fr2 hF2 hrun _ _ hA
      obtain ⟨v, fr1, vs1, ws, w, as1, s1, h1, h2, h3, h4, h5, h6, h7, h8, h9⟩ := evalOp_simV (h' := h') hC hrun hR hF2
      obtain ⟨g1, g2⟩ := onV_some h1
      obtain ⟨s2, k1, k2, k3⟩ := put_simV h3 h5 hi.2.1 h6 h7
      have hE : Ex Loc.fix s vs.σ as.σ s2 vs1.σ as1.σ ws := ((h4.weaken hmode).trans hR k2).ws (by simp)
      have hch := chk_sim hi hR h3 h4 hF g1
      have hsk' : ∀ t ∈ sk, lk t (putF fr' it.o.dst w) = some undef := fun t ht => by
        rw [lk_put_ne]
        · exact hsk t ht
        · intro he
          rw [he] at hns
          simp [Option.all] at hns
          exact hns ht
      obtain ⟨fr3, vs3, fr3', as3, s3, ws3, q1, q2, q3, q4, q5, q6, q7, q8⟩ := evalG_simV hC its xs hxs sk _ _ vs1 as1 s2 K out g2 k1 k3 hsk'
      rw [hi.1] at h2
      refine ⟨fr3, vs3, fr3', as3, s3, ws ++ ws3, q1, fun ys k' => ?_, q3, q4, hE.trans hR q5, h8.trans q6, ⟨fun b hb' hl => ?_, fun b hb' => q7.2 b (h9.2 b hb')⟩, fun t ht => ?_⟩
      · rw [hA w as1 h2, hch]
        show evalA _ _ _ _ _ _ _ _ _ = _
        rw [← hi.1]; exact q2 ys k'
      · rcases List.mem_append.1 hb' with h | h
        · exact q7.2 b (h9.1 b h hl)
        · exact q7.1 b h hl
      · rw [q8 t (fun ⟨i, h1, h2⟩ => ht ⟨i, by simp [h1], h2⟩), lk_put_ne (fun he => ht ⟨it, by simp, he⟩)]
    -- what is passed over
    have skip : ∀ {fr2 : VFr}, FrOk s os fr2 fr' → onV (flOk os fr vs [] it.fl) (evalG P C hb nt os all (it.o.dst.toList ++ sk) its (putV fr2 it.o.dst undefV) vs K) = some out →
        (∀ ys k', evalA P C' h' nt all ((x :: xs) ++ ys) fr' as k' = onB (chkA all x.1 x.2 fr' as as) (evalA P C' h' nt all (xs ++ ys) (putF fr' x.1.dst undef) as k')) →
        ∃ fr1 vs1 fr1' as1 s1 ws, K fr1 vs1 = some out ∧ (∀ ys k', evalA P C' h' nt all ((x :: xs) ++ ys) fr' as k' = evalA P C' h' nt all ys fr1' as1 k') ∧ Rel s1 vs1.σ as1.σ ∧ FrOk s1 os fr1 fr1' ∧ Ex Loc.fix s vs.σ as.σ s1 vs1.σ as1.σ ws ∧ EvOk hb vs vs1 ∧ WrOk hb ws vs vs1 ∧
          ∀ t, ¬dstsOf (it :: its) t → lk t fr1' = lk t fr' := by
      intro fr2 hF2 hrun hA
      obtain ⟨g1, g2⟩ := onV_some hrun
      have hu : s.R undefV undef := .tup rfl fun j x w hx => by simp at hx
      obtain ⟨s2, k1, k2, k3⟩ := put_simV hR hF2 hi.2.1 (.c hu) (fun _ => hu)
      have hch := chk_sim hi hR hR (Ex.refl (F := Loc.fix) s vs.σ as.σ []) hF g1
      have hsk' : ∀ t ∈ it.o.dst.toList ++ sk, lk t (putF fr' it.o.dst undef) = some undef := fun t ht => by
        cases hdd : it.o.dst with
        | none =>
          rw [hdd] at ht
          simp at ht
          exact hsk t ht
        | some d =>
          rw [hdd] at ht
          simp only [putF, lk]
          split
          · rfl
          · rename_i hne
            simp at ht
            rcases ht with rfl | ht
            · exact absurd rfl hne
            · exact hsk t ht
      obtain ⟨fr3, vs3, fr3', as3, s3, ws3, q1, q2, q3, q4, q5, q6, q7, q8⟩ := evalG_simV hC its xs hxs _ _ _ vs as s2 K out g2 k1 k3 hsk'
      refine ⟨fr3, vs3, fr3', as3, s3, ws3, q1, fun ys k' => ?_, q3, q4, (k2.trans hR q5).ws (by simp), q6, q7, fun t ht => ?_⟩
      · rw [hA, hch]
        show evalA _ _ _ _ _ _ _ _ _ = _
        rw [← hi.1]; exact q2 ys k'
      · rw [q8 t (fun ⟨i, h1, h2⟩ => ht ⟨i, by simp [h1], h2⟩), lk_put_ne (fun he => ht ⟨it, by simp, he⟩)]
    cases hg : it.o.guard with
    | none =>
      rw [hg] at h
      refine run hF h (fun _ v h => ⟨v, h⟩) (fun _ _ => .inr trivial) fun w as1 hw ys k' => ?_
      simp only [List.cons_append, evalA, hd', if_true]
      rw [← hi.1, hg]
      simp only
      rw [hi.1, hw]
    | some g =>
      obtain ⟨j, want⟩ := g
      rw [hg] at h
      simp only at h
      split at h
      · cases h
      · rename_i t ht
        have hgx : x.1.guard = some (j, want) := by rw [← hi.1]; exact hg
        -- the abstract machine's choice
        have key : ∀ (w : Value), lk t fr' = some w → ∀ ys k', evalA P C' h' nt all ((x :: xs) ++ ys) fr' as k' = (if gd want w then evalOp P C' h' x.1 fr' as (fun v s => some (v, s)) else some (undef, as)).bind fun y => onB (chkA all x.1 x.2 fr' as y.2) (evalA P C' h' nt all (xs ++ ys) (putF fr' x.1.dst y.1) y.2 k') := by
          intro w hw ys k'
          simp only [List.cons_append, evalA, hd', if_true, hgx, wants, ht, hw, Option.map_some, Option.bind_some]
        split at h
        · rename_i hs
          refine skip hF h fun ys k' => ?_
          rw [key undef (hsk t (by simpa using hs))]
          rfl
        · simp only [Option.bind_eq_some_iff] at h
          obtain ⟨v, hv, h⟩ := h
          obtain ⟨w, hw1, hw2, _⟩ := hF t v hv
          have hF2 : ∀ b, v = VB b → FrOk s os ((t, VB b) :: fr) fr' := by
            intro b hb t' u hu
            simp only [lkV] at hu
            split at hu
            · rename_i he
              subst he; cases hu
              subst hb
              exact ⟨w, hw1, hw2, fun _ => hw2.not2 rfl⟩
            · exact hF t' u hu
          have hwb : ∀ b, v = VB b → w = .bool b := by
            intro b hb
            subst hb
            exact (hw2.not2 rfl).p_inv.1
          have hdef : ∀ b t' u, lkV t' fr = some u → ∃ u', lkV t' ((t, VB b) :: fr) = some u' := by
            intro b t' u hu
            simp only [lkV]
            split
            · exact ⟨_, rfl⟩
            · exact ⟨u, hu⟩
          rcases brB_some h with ⟨rfl, h⟩ | ⟨rfl, h⟩
          · have e := hwb true rfl
            subst e
            cases want with
            | true =>
              simp only [if_true] at h
              refine run (hF2 true rfl) h (hdef true) (fun _ _ => .inr trivial) fun w2 as1 hw ys k' => ?_
              rw [key _ hw1, hw]
              rfl
            | false =>
              simp only [Bool.false_eq_true, if_false] at h
              refine skip (hF2 true rfl) h fun ys k' => ?_
              rw [key _ hw1]; rfl
          · have e := hwb false rfl
            subst e
            cases want with
            | true =>
              simp only [if_true] at h
              refine skip (hF2 false rfl) h fun ys k' => ?_
              rw [key _ hw1]; rfl
            | false =>
              simp only [Bool.false_eq_true, if_false] at h
              refine run (hF2 false rfl) h (hdef false) (fun _ _ => .inr trivial) fun w2 as1 hw ys k' => ?_
              rw [key _ hw1, hw]
              rfl

/-- Blocks of operations, one behind the other. -/
def unBlk : List Blk → List Item
  | [] => []
  | .one it :: r => it :: unBlk r
  | .grp its :: r => its ++ unBlk r
theorem unBlk_blks : ∀ (l acc : List Item), unBlk (blks acc l) = acc.reverse ++ l
  | [], acc => by
    unfold blks
    split
    · rename_i h; rfl
    · simp [unBlk]
  | it :: l, acc => by
    unfold blks
    split
    · rw [unBlk_blks l]; simp
    · split
      · simp [unBlk, unBlk_blks l]
      · split
        · rw [unBlk_blks l]; simp
        · simp [unBlk, unBlk_blks l]
def oneOk (l : List Blk) : Prop := ∀ it, Blk.one it ∈ l → it.o.guard = none
theorem oneOk_blks : ∀ (l acc : List Item), oneOk (blks acc l)
  | [], acc => by
    unfold blks
    split <;> intro it h <;> simp at h
  | it :: l, acc => by
    unfold blks
    split
    · exact oneOk_blks l _
    · rename_i hg
      split
      · intro i h
        rcases List.mem_cons.1 h with h | h
        · cases h; simpa using hg
        · exact oneOk_blks l _ i h
      · split
        · exact oneOk_blks l _
        · intro i h
          simp only [List.mem_cons] at h
          rcases h with h | h | h
          · cases h
          · cases h; simpa using hg
          · exact oneOk_blks l _ i h

theorem outFr_lk {x : List VV} : ∀ (l : List Nat) (i : Nat) (fr : VFr) (t : Nat) (v : VV), lkV t (outFr x l i fr) = some v → (∃ j, l[j]? = some t ∧ v = x.getD (i + j) undefV) ∨ lkV t fr = some v
  | [], i, fr, t, v, h => .inr h
  | u :: l, i, fr, t, v, h => by
    simp only [outFr] at h
    rcases outFr_lk l (i + 1) _ t v h with ⟨j, h1, h2⟩ | h1
    · exact .inl ⟨j + 1, by simpa using h1, by rw [h2]; congr 1; omega⟩
    · simp only [lkV] at h1
      split at h1
      · rename_i he
        subst he
        cases h1
        exact .inl ⟨0, rfl, rfl⟩
      · exact .inr h1
theorem outVs_get : ∀ (fr : VFr) (l : List Nat) (r : List VV) (j t : Nat), outVs fr l = some r → l[j]? = some t → lkV t fr = some (r.getD j undefV)
  | fr, [], r, j, t, hr, h => by simp at h
  | fr, u :: l, r, j, t, hr, h => by
    simp only [outVs] at hr
    split at hr
    · rename_i v hv
      split at hr
      · rename_i l' hl
        cases hr
        cases j with
        | zero => simp at h; subst h; simpa using hv
        | succ j => simpa using outVs_get fr l l' j t hl (by simpa using h)
      · cases hr
    · cases hr
theorem lk_filter {p : Nat × VV → Bool} (hp : ∀ t u v, p (t, u) = p (t, v)) : ∀ {fr : VFr} {t : Nat} {v : VV}, lkV t (fr.filter p) = some v → lkV t fr = some v ∧ p (t, v) = true
  | [], t, v, h => by simp [lkV] at h
  | (u, y) :: fr, t, v, h => by
    rw [List.filter_cons] at h
    split at h
    · rename_i hpp
      simp only [lkV] at h ⊢
      split at h
      · rename_i he; subst he; cases h; rw [if_pos rfl]; exact ⟨rfl, hpp⟩
      · rename_i he; rw [if_neg he]; exact lk_filter hp h
    · rename_i hpp
      obtain ⟨h1, h2⟩ := lk_filter hp h
      simp only [lkV]
      rw [if_neg]
      · exact ⟨h1, h2⟩
      · rintro rfl
        exact hpp (by rw [hp _ y v]; exact h2)

theorem evalR_simV {C : VOracle} {C' : Oracle} (hC : OrOk C C') {h' hb nt : Nat} {need : List Nat} {all : List Oper} : ∀ (bs : List Blk) (xs : List (Oper × Option (List Nat))), oneOk bs → All2 (ItemA all os) (unBlk bs) xs → ∀ (fr : VFr) (fr' : Fr) (vs : VS) (as : S) (s : St) (k : VKF) (out : VOut),
    evalR P C hb nt os need all bs fr vs k = some out → Rel s vs.σ as.σ → FrOk s os fr fr' →
    ∃ fr1 vs1 fr1' as1 s1 ws, k fr1 vs1 = some out ∧ (∀ k', evalA P C' h' nt all xs fr' as k' = k' fr1' as1) ∧ Rel s1 vs1.σ as1.σ ∧ FrOk s1 os fr1 fr1' ∧ Ex (· = .ext) s vs.σ as.σ s1 vs1.σ as1.σ ws ∧ EvOk hb vs vs1 ∧ WrOk hb ws vs vs1
  | [], xs, ho, hx, fr, fr', vs, as, s, k, out, h, hR, hF => by
    rw [hx.nil_inv]
    exact ⟨fr, vs, fr', as, s, [], h, fun _ => rfl, hR, hF, Ex.refl _ _ _ _, .refl _ _, .nil rfl⟩
  | .one it :: bs, xs, ho, hx, fr, fr', vs, as, s, k, out, h, hR, hF => by
    obtain ⟨x, xs, rfl, hi, hxs⟩ := All2.cons_inv (a := unBlk bs) hx
    simp only [evalR] at h
    split at h
    case isFalse => cases h
    rename_i hd
    have hg := ho it (by simp)
    obtain ⟨fr1, vs1, ws, w, as1, s1, h1, h2, h3, h4, h5, h6, h7, h8⟩ := step_simV (h' := h') (all := all) (x := x) hC hi (K := fun f sx => evalR P C hb nt os need all bs f sx k) h hR hF
    obtain ⟨fr3, vs3, fr3', as3, s3, ws3, q1, q2, q3, q4, q5, q6, q7⟩ := evalR_simV hC (h' := h') bs xs (fun i hi => ho i (by simp [hi])) hxs _ _ vs1 as1 s1 k out h1 h4 h6
    refine ⟨fr3, vs3, fr3', as3, s3, ws ++ ws3, q1, fun k' => ?_, q3, q4, (h5.weaken (fun L hL => by subst hL; unfold modeF; split <;> trivial)).trans hR q5, h7.trans q6, ⟨fun b hb' hl => ?_, fun b hb' => q7.2 b (h8.2 b hb')⟩⟩
    · simp only [evalA]
      rw [if_pos (by rw [← hi.1]; exact hd), ← hi.1, hg]
      simp only
      rw [hi.1, h2, h3]
      exact q2 k'
    · rcases List.mem_append.1 hb' with h | h
      · exact q7.2 b (h8.1 b h hl)
      · exact q7.1 b h hl
  | .grp its :: bs, xs, ho, hx, fr, fr', vs, as, s, k, out, h, hR, hF => by
    have hsplit : ∃ xa xb, xs = xa ++ xb ∧ All2 (ItemA all os) its xa ∧ All2 (ItemA all os) (unBlk bs) xb := by
      refine ⟨xs.take its.length, xs.drop its.length, (List.take_append_drop _ _).symm, ?_, ?_⟩
      · have := hx.take its.length; simpa [unBlk] using this
      · have := hx.drop its.length; simpa [unBlk] using this
    obtain ⟨xa, xb, rfl, hxa, hxb⟩ := hsplit
    simp only [evalR, Option.bind_eq_some_iff] at h
    obtain ⟨y, h1, h⟩ := h
    obtain ⟨fr1, vs1, fr1', as1, s1, ws, q1, q2, q3, q4, q5, q6, q7, q8⟩ := evalG_simV hC (h' := h') its xa hxa [] fr fr' vs as s _ y h1 hR hF (fun t ht => by simp at ht)
    split at q1
    case h_2 => cases q1
    rename_i ovs hovs
    cases q1
    simp only at h
    have hF1 : FrOk s1 os (outFr ovs (outSl need its) 0 (dropFr its fr)) fr1' := by
      intro t v hv
      rcases outFr_lk _ _ _ _ _ hv with ⟨j, g1, g2⟩ | g
      · rw [Nat.zero_add] at g2
        subst g2
        exact q4 t _ (outVs_get _ _ _ _ _ hovs g1)
      · obtain ⟨g1, g2⟩ := lk_filter (fun _ _ _ => rfl) g
        obtain ⟨w, p1, p2, p3⟩ := (hF.mono hR q5 fun _ => trivial) t v g1
        refine ⟨w, ?_, p2, p3⟩
        rw [q8 t]
        · exact p1
        · rintro ⟨it, h1, h2⟩
          have := (List.all_eq_true.1 g2) it h1
          simp [h2] at this
    obtain ⟨fr3, vs3, fr3', as3, s3, ws3, p1, p2, p3, p4, p5, p6, p7⟩ := evalR_simV hC (h' := h') bs xb (fun i hi => ho i (by simp [hi])) hxb _ _ vs1 as1 s1 k out h q3 hF1
    refine ⟨fr3, vs3, fr3', as3, s3, ws ++ ws3, p1, fun k' => by rw [q2, p2], p3, p4, (q5.weaken fix_ext).trans hR p5, q6.trans p6, ⟨fun b hb' hl => ?_, fun b hb' => p7.2 b (q7.2 b hb')⟩⟩
    rcases List.mem_append.1 hb' with h | h
    · exact p7.2 b (q7.1 b h hl)
    · exact p7.1 b h hl
end
end Go.Vm
