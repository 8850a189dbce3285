/-
  From the machine of values to the model.
-/
import Derived.Test.YtkpamaplmjlagaaVSim4
import Derived.Test.YtkpamaplmjlagaaVLim
import Derived.Test.YtkpamaplmjlagaaBridge
namespace Go.Vm
open Go Go.Ab
set_option linter.unusedVariables false
variable {P : Program}

/-- A call of the machine of values is a call that leaves all that lay there. -/
theorem callV_calls {X : FuncId → Option (List VV → List VObj → Option VOut)} {X' : FuncId → Option (List Value → List AObj → Option Out)} (hX : ∀ f, match X f, X' f with | none, none => True | some g, some g' => StandV g g' | _, _ => False) {H : FuncId → Nat → List Nat}
    (hN : NamesOk P) (hX' : ∀ f g, X' f = some g → StandOk P f g) {f : FuncId} {args : List VV} {b : Bool} {vs : VS} (h : callLV P X H f args [] = some (VB b, vs))
    {s : St} {α : List AObj} {ρ : Ren} {w : World} {ws : List Value} {args' : Array Value} (hR : Rel s [] α) (how : ∀ a L, s.ow a ≠ some L) (ha : All2 s.R args ws)
    (hI : Inv ρ α w) (hno : ∀ β i, ¬Openc ρ α β i) (hargs : AllL (V ρ) ws args'.toList) :
    Calls P f args' w fun e w' => e = .returned (.bool b) ∧ Go.RowKit.Below w.heap.size w w' := by
  obtain ⟨n, hn⟩ := callLV_ev h
  obtain ⟨w0, as1, s1, h1, h2, h3, h4, h5, h6⟩ := callN_simV hX n f args [] _ _ (hn n (Nat.le_refl _)) s α ws hR (fun a L h => absurd h (how a L)) ha
  have hw0 : w0 = .bool b := by cases h4 with | c h => exact h.p_inv.1
  subst hw0
  have := (callN_sim hN hX' n f ws α _ _ h1 ρ w args'.toList hI hargs).2.1
  simp only [Array.toArray_toList] at this
  refine this.mono fun e w' ⟨v', ρ', he, hst, hv⟩ => ?_
  have : v' = .bool b := bool_inv hv
  subst this
  exact ⟨he, below_of_ext hst.ext hno⟩

def St.empty : St := ⟨fun _ => none, fun _ => none, fun _ => False, fun _ => none⟩
theorem Rel.empty : Rel St.empty [] [] where
  dom := fun _ _ => rfl
  inj := fun _ _ _ h => nomatch h
  obj := fun b c lo op h => by simp at h
  zrow := fun _ _ h => nomatch h
  zi := fun _ _ _ h => nomatch h
  own := fun _ _ h => nomatch h
  litz := fun _ h => h.elim
end Go.Vm
