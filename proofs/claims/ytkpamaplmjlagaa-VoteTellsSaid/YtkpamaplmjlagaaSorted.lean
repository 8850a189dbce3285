/-
  What stands in for slices.AppendSeq(nil, slices.Values(l)) at integers of sixteen bits.
-/
import Derived.Test.YtkpamaplmjlagaaSim4
import Derived.Carry
import Derived.Laws.OwnMore
namespace Go.Ab
open Go

/-- The one in the middle. -/
def mid3 (a b c : Int) : Int := max (min a b) (min (max a b) c)

def u16s : List Value → Option (List Int)
  | [] => some []
  | .int .u16 n :: r => (u16s r).map (n :: ·)
  | _ => none
theorem u16s_some : ∀ {l : List Value} {zs : List Int}, u16s l = some zs → l = zs.map (Value.int .u16)
  | [], zs, h => by simp [u16s] at h; subst h; rfl
  | .int .u16 n :: r, zs, h => by
    simp only [u16s, Option.map_eq_some_iff] at h
    obtain ⟨z, h1, rfl⟩ := h
    rw [u16s_some h1]; rfl

/-- The iterator's function: fv. -/
def appendX (fv : FuncId) : List Value → List AObj → Option Out
  | [.slice none 0 0, .func (.func g) first captured], σ =>
    if g = fv ∧ first = #[] then
      match captured.toList with
      | [.pointer (some ⟨b, o, none⟩)] =>
        match (row ⟨σ, []⟩ b).bind fun c => c[o]? with
        | some (.slice (some ⟨b1, o1, none⟩) (n + 1) c) =>
          if c / 2 = 1 ∧ n < 1000000 then
            (row ⟨σ, []⟩ b1).bind fun r =>
              if o1 + (n + 1) ≤ r.length then
                (u16s ((r.drop o1).take (n + 1))).bind fun zs => some (sl σ.length 0 (n + 1) 1 0, ⟨σ ++ [.arr (zs.map (Value.int .u16)) 0 true], []⟩)
              else none
          else none
        | _ => none
      | _ => none
    else none
  | _, _ => none

end Go.Ab
