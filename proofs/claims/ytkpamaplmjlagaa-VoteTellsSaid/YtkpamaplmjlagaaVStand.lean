/-
  What stands in for slices.AppendSeq(nil, slices.Values(l)), in the machine of values.
-/
import Derived.Test.YtkpamaplmjlagaaVEqs
import Derived.Test.YtkpamaplmjlagaaSorted
namespace Go.Vm
open Go Go.Ab
set_option linter.unusedVariables false

def u16V : List VV → Option (List Int)
  | [] => some []
  | .p (.int .u16 n) :: r => (u16V r).map (n :: ·)
  | _ => none
def appendXV (fv : FuncId) : List VV → List VObj → Option VOut
  | [.p (.slice none 0 0), .fn (.func g) [] [.ptr b 0]], σ =>
    if g = fv then
      match σ[b]? with
      | some (.arr [.sl f 1 es] _ _) => (u16V es).bind fun _ => if es.length ≠ 0 ∧ es.length ≤ 1000000 then some (.rs false σ.length 0 es.length 1 0, ⟨σ ++ [.arr es 0 true], [], []⟩) else none
      | _ => none
    else none
  | _, _ => none

theorem u16V_some : ∀ {l : List VV} {zs : List Int}, u16V l = some zs → l = zs.map (VI .u16)
  | [], zs, h => by simp [u16V] at h; subst h; rfl
  | .p (.int .u16 n) :: r, zs, h => by
    simp only [u16V, Option.map_eq_some_iff] at h
    obtain ⟨z, h1, rfl⟩ := h
    rw [u16V_some h1]; rfl
theorem u16s_map (zs : List Int) : u16s (zs.map (Value.int .u16)) = some zs := by
  induction zs with
  | nil => rfl
  | cons z zs ih => simp [u16s, ih]
theorem u16V_map (zs : List Int) : u16V (zs.map (VI .u16)) = some zs := by
  induction zs with
  | nil => rfl
  | cons z zs ih => simp [u16V, ih]
theorem all_u16 {R : VV → Value → Prop} (hR : ∀ z w, R (VI .u16 z) w → w = .int .u16 z) : ∀ {zs : List Int} {ws : List Value}, All2 R (zs.map (VI .u16)) ws → ws = zs.map (Value.int .u16)
  | [], ws, h => h.nil_inv
  | z :: zs, ws, h => by
    obtain ⟨y, b, rfl, h1, h2⟩ := All2.cons_inv (a := zs.map (VI .u16)) h
    rw [hR z y h1, all_u16 hR h2]; rfl
theorem flat_u16 (zs : List Int) : flat (zs.map (VI .u16)) = zs.map (VI .u16) := by
  induction zs with
  | nil => rfl
  | cons z zs ih => rw [List.map_cons, flat_cons, ih]; rfl

theorem appendX_standV (fv : FuncId) : StandV (appendXV fv) (appendX fv) := by
  intro f args σ v vs1 h s α ws hR how hargs
  simp only at h
  unfold appendXV at h
  split at h
  · rename_i g b
    obtain ⟨w1, ws, rfl, h1, hargs⟩ := hargs.cons_inv
    obtain ⟨w2, ws, rfl, h2, hargs⟩ := hargs.cons_inv
    rw [hargs.nil_inv]
    obtain ⟨rfl, _⟩ := h1.p_inv
    obtain ⟨a', b', rfl, ha, hb⟩ := h2.fn_inv
    have ha0 : a' = #[] := by have := ha.nil_inv; cases a'; simp_all
    subst ha0
    obtain ⟨pw, l, hl, hp, hn⟩ := hb.cons_inv
    rw [hn.nil_inv] at hl
    obtain ⟨a, hιa, rfl⟩ := hp.ptr_inv
    split at h
    · rename_i hg
      subst hg
      split at h
      · rename_i f' es lo op hrow
        simp only [Option.bind_eq_some_iff] at h
        obtain ⟨zs, hz, h⟩ := h
        have hes := u16V_some hz
        subst hes
        split at h
        · rename_i hc
          cases h
          obtain ⟨a0, c', lo', op', g1, g2, _, _, g3, g4⟩ := hR.obj _ _ _ _ hrow
          rw [hιa] at g1; cases g1
          obtain ⟨w0, hw0⟩ : ∃ w0, c'[0]? = some w0 := ⟨c'[0]'(by simp at g3; omega), List.getElem?_eq_getElem _⟩
          have hcl := (g4 0 _ w0 rfl hw0).cls
          have hsl : ∃ f2, s.R (.sl f2 1 (zs.map (VI .u16))) w0 := by
            by_cases hf : f' = 2
            · subst hf; exact ⟨0, hcl⟩
            · rw [cls_sl hf] at hcl; exact ⟨f', hcl⟩
          obtain ⟨f2, hsl⟩ := hsl
          obtain ⟨a1, o1, c, r, k1, rfl, k2, k3, k4, k5, k6, k7⟩ := sl_cells hsl
          rw [flat_u16] at k7
          have hcells := all_u16 (fun z w h => h.p_inv.1) k7
          obtain ⟨s1, q1, q2, q3, q4, _⟩ := rel_new hR (c := zs.map (VI .u16)) (c' := zs.map (Value.int .u16)) 0 0 (Nat.le_refl _) (Nat.zero_le _) (by rw [hcells] at k7; exact k7)
          simp only [List.length_map] at *
          refine ⟨sl α.length 0 zs.length 1 0, ⟨α ++ [.arr (zs.map (Value.int .u16)) 0 true], []⟩, s1, ?_, q1, q2.weaken fix_ext, .c (.rs q3 (by decide) (.inr rfl)), fun a L hL => ?_, .of_snoc rfl rfl⟩
          · obtain ⟨n, hn'⟩ : ∃ n, zs.length = n + 1 := ⟨zs.length - 1, by omega⟩
            simp only [appendX, hl]
            have hra : row ⟨α, []⟩ a = some c' := row_of g2
            have hrz : row ⟨α, []⟩ a1 = some r := zrow_row (as := ⟨α, []⟩) hR k1
            simp only [and_self, if_true, hra, Option.bind_some, hw0, hn']
            rw [hn'] at hcells k2
            simp only [Nat.mul_one] at hcells k2
            rw [if_pos ⟨by omega, by omega⟩, hrz, Option.bind_some, if_pos k2, hcells, u16s_map, Option.bind_some]
          · rw [q4] at hL
            rcases how a L hL with h | h
            · exact .inl h
            · exact .inr (.inr h)
        · cases h
      · cases h
    · cases h
  · cases h
end Go.Vm
