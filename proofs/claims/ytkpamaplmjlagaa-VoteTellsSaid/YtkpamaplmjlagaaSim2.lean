/-
  Code, and calls.
-/
import Derived.Test.YtkpamaplmjlagaaSim
namespace Go.Ab
open Go

section
variable {P : Program}

theorem V_bool_inv {ρ : Ren} {v : Value} {b : Bool} (h : V ρ v (.bool b)) : v = .bool b := by
  cases h with
  | val h => cases h with
    | cell h => cases h with
      | base h => cases h; rfl

theorem wants_sim {ρ : Ren} {ops : Array Oper} {o : Oper} {fr : Fr} {a : Act} {g : Bool} (h : wants ops.toList o fr = some g) (hF : FrOk ρ fr a) : Region.wanted o (yielded ops a.tmps) = g := by
  unfold wants at h
  unfold Region.wanted
  split at h
  · rename_i ho
    rw [ho]; simpa using h
  · rename_i j want ho
    rw [ho]
    simp only
    split at h
    · rename_i t ht
      simp only [Option.map_eq_some_iff] at h
      obtain ⟨v, hv, hg⟩ := h
      unfold gd at hg
      have hV := hF t v hv
      have ht' : (ops[j]?).bind (·.dst) = some t := by simpa using ht
      unfold yielded
      rw [ht']
      simp only [Option.bind_some]
      cases hget : a.tmps[t]? with
      | none =>
        have : a.tmps.getD t undef = undef := by simp [Array.getD_eq_getD_getElem?, hget]
        rw [this] at hV
        simp only
        split at hg
        · cases hV with
          | val h => cases h with
            | cell h => cases h with
              | base h => cases h
        · rw [← hg]; rfl
      | some x =>
        have : a.tmps.getD t undef = x := by simp [Array.getD_eq_getD_getElem?, hget]
        rw [this] at hV
        split at hg
        · rename_i b
          rw [bool_inv hV]
          rw [← hg]
          cases b <;> cases want <;> rfl
        · rename_i hnb
          rw [← hg]
          split
          · rename_i b hx
            cases hx
            exact absurd (V_bool_inv hV) (hnb b)
          · rfl
    · cases h

theorem FrOk.mono {ρ ρ' : Ren} (h : ρ.le ρ') {fr : Fr} {a : Act} (k : FrOk ρ fr a) : FrOk ρ' fr a := fun t v hv => (k t v hv).mono h

theorem FrOk.put {ρ : Ren} {fr : Fr} {a : Act} {dst : Option Nat} {v v' : Value} {nt : Nat} (k : FrOk ρ fr a) (hv : V ρ v v') (hd : dstOk nt dst = true) (hs : a.tmps.size = nt) : FrOk ρ (putF fr dst v) (a.put dst v') := by
  intro t u hu
  cases dst with
  | none => exact k t u hu
  | some d =>
    simp only [dstOk, decide_eq_true_eq] at hd
    simp only [putF, lk] at hu
    simp only [Act.put]
    split at hu
    · subst_vars
      cases hu
      have : (a.tmps.setIfInBounds d v').getD d undef = v' := by simp [Array.getD_eq_getD_getElem?, hd]
      rw [this]; exact hv
    · rename_i hne
      have : (a.tmps.setIfInBounds d v').getD t undef = a.tmps.getD t undef := by simp [Array.getD_eq_getD_getElem?, hne]
      rw [this]; exact k t u hu

theorem put_size (a : Act) (dst : Option Nat) (v : Value) : (a.put dst v).tmps.size = a.tmps.size := by cases dst <;> simp [Act.put]
theorem put_defers (a : Act) (dst : Option Nat) (v : Value) : (a.put dst v).defers = a.defers := by cases dst <;> rfl

theorem evalOps_sim {C : Oracle} (hC : OracleOk P C) (hN : NamesOk P) {σ0 : List AObj} {nt : Nat} {ops : Array Oper} {k : KF} {out : Out} {Q : Exit → Act → World → Prop} {ρ0 : Ren} {σi : List AObj} {wi : World} :
    ∀ (r : List Oper) (i : Nat) (fr : Fr) (s : S) (a : Act) (w : World) (ρ : Ren), ops.toList.drop i = r → evalOps P C σ0.length nt ops.toList r fr s k = some out → Step ρ0 σi wi ρ s.σ w → Pres σ0 s → FrOk ρ fr a → a.tmps.size = nt → a.defers = [] →
      (∀ fr' s' ρ' a' w', k fr' s' = some out → Step ρ0 σi wi ρ' s'.σ w' → Pres σ0 s' → FrOk ρ' fr' a' → a'.tmps.size = nt → a'.defers = [] → Q .normal a' w') →
      wpOps P ops Q (List.range' i r.length) a w
  | [], i, fr, s, a, w, ρ, hd, h, hst, hP, hF, hs, hdf, hk => by
    simp only [List.length_nil, List.range'_zero, wpOps]
    exact hk _ _ _ _ _ h hst hP hF hs hdf
  | o :: r, i, fr, s, a, w, ρ, hd, h, hst, hP, hF, hs, hdf, hk => by
    have hoi : ops[i]? = some o := by
      have : (ops.toList.drop i)[0]? = some o := by rw [hd]; rfl
      rw [List.getElem?_drop] at this
      simpa using this
    have hdr : ops.toList.drop (i + 1) = r := by
      have : (ops.toList.drop i).drop 1 = r := by rw [hd]; rfl
      rwa [List.drop_drop] at this
    simp only [List.length_cons, List.range'_succ, wpOps, hoi]
    simp only [evalOps] at h
    split at h
    · rename_i hdst
      split at h
      · rename_i hg
        have hw : Region.wanted o (yielded ops a.tmps) = true := by unfold Region.wanted; rw [hg]
        rw [if_pos hw]
        left
        refine evalOp_sim hC hN h hst.inv hP hF fun v s' ρ' v' w' hk' hst' hP' hV => ?_
        refine evalOps_sim hC hN r (i + 1) _ s' _ w' ρ' hdr hk' (hst.trans hst') hP' ((hF.mono hst'.le).put hV hdst hs) (by rw [put_size]; exact hs) (by rw [put_defers]; exact hdf) hk
      · simp only [Option.bind_eq_some_iff] at h
        obtain ⟨g, hg, x, hx, h⟩ := h
        have hw := wants_sim hg hF
        cases g with
        | true =>
          rw [if_pos hw]
          left
          simp only [if_true] at hx
          refine evalOp_sim hC hN hx hst.inv hP hF fun v s' ρ' v' w' hk' hst' hP' hV => ?_
          cases hk'
          exact evalOps_sim hC hN r (i + 1) _ s' _ w' ρ' hdr h (hst.trans hst') hP' ((hF.mono hst'.le).put hV hdst hs) (by rw [put_size]; exact hs) (by rw [put_defers]; exact hdf) hk
        | false =>
          rw [if_neg (by rw [hw]; simp)]
          simp only [Bool.false_eq_true, if_false, Option.some.injEq] at hx
          subst hx
          exact evalOps_sim hC hN r (i + 1) _ s _ w ρ hdr h hst hP (hF.put V_undef hdst hs) (by rw [put_size]; exact hs) (by rw [put_defers]; exact hdf) hk
    · cases h

end
end Go.Ab
