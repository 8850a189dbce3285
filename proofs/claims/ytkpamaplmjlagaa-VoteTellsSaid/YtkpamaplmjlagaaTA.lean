/-
  What the seat's program is for all of its laws.
-/
import Derived.Test.YtkpamaplmjlagaaRows
import Derived.Test.YtkpamaplmjlagaaHV
import Derived.Test.YtkpamaplmjlagaaVArgs
import Derived.Test.YtkpamaplmjlagaaStand
import Derived.Test.YtkpamaplmjlagaaAVa2
namespace Go.Proofs.Ytkpamaplmjlagaa.common
open Go Go.ChangeShapes Go.WideShapes Go.ChangeAt Go.RowKit Go.Vm
set_option linter.unusedVariables false
theorem own : ownKnob Try.prog.godebug = none := by kernel_rfl
theorem names : Ab.NamesOk Try.prog := by
  refine ⟨fun f fn h => ?_, by kernel_rfl⟩
  have : (Try.prog.funcs.all fun fn => !(fn.name == "runtime.NumGoroutine")) = true := by kernel_rfl
  rw [Array.all_eq_true_iff_forall_mem] at this
  have := this fn (Array.mem_of_getElem? h)
  simpa using this
def Xa : FuncId → Option (List Value → List Ab.AObj → Option Ab.Out) := fun f => if f = 140 then some (Ab.appendX 120) else none
theorem pairs : ∀ f, match Hoas.Xs f, Xa f with | none, none => True | some g, some g' => StandV g g' | _, _ => False := by
  intro f
  unfold Hoas.Xs Xa
  by_cases hf : f = 140
  · rw [if_pos hf, if_pos hf]; exact appendX_standV 120
  · rw [if_neg hf, if_neg hf]; trivial
theorem stands : ∀ f g, Xa f = some g → Ab.StandOk Try.prog f g := by
  intro f g h
  unfold Xa at h
  split at h
  · rename_i hf
    cases h
    subst hf
    exact Ab.append_stand (e := 43) ⟨Try.f140, Try.func140, by kernel_rfl⟩ (fun Bs Bo b off cap zs h1 h2 w h3 h4 h5 h6 => Va.append_run Bs Bo b off cap zs h1 h2 w h3 h4 h5 h6)
  · cases h

theorem laid : laidOutB Try.prog = true := by kernel_rfl
/-- Whole numbers, in a row. -/
theorem ints_of {k : IntKind} : ∀ (es : List VV), (∀ x, x ∈ es → HasV (.int k) x) → ∃ l : List Int, es = l.map (VI k) ∧ ∀ x ∈ l, (Lit.int k x).wf = true
  | [], _ => ⟨[], rfl, fun x h => by simp at h⟩
  | e :: es, h => by
    obtain ⟨l, rfl, h2⟩ := ints_of es fun x hx => h x (by simp [hx])
    have := h e (by simp)
    cases this with
    | int h1 => exact ⟨_ :: l, rfl, fun x hx => by
      rcases List.mem_cons.1 hx with rfl | hx
      · exact h1
      · exact h2 x hx⟩
end Go.Proofs.Ytkpamaplmjlagaa.common
