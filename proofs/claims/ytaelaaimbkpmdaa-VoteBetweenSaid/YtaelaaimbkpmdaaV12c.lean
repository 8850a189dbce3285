/-
  VoteBetween: at every input the law returns true, and its argument reads behind the call as it did before; no conditions.
-/
import Derived.Test.YtaelaaimbkpmdaaRows
import Derived.Test.YtaelaaimbkpmdaaV12b
import Derived.Test.YtaelaaimbkpmdaaBridge
import Derived.Test.YtaelaaimbkpmdaaStand
import Derived.Test.YtaelaaimbkpmdaaVa2
namespace Go.Proofs.Ytaelaaimbkpmdaa.between
open Go Go.Ab Go.ChangeShapes Go.WideShapes Go.ChangeAt Go.RowKit
set_option linter.unusedVariables false

theorem own : ownKnob Try.prog.godebug = none := by kernel_rfl
theorem names : NamesOk Try.prog := by
  refine ⟨fun f fn h => ?_, by kernel_rfl⟩
  have : (Try.prog.funcs.all fun fn => !(fn.name == "runtime.NumGoroutine")) = true := by kernel_rfl
  rw [Array.all_eq_true_iff_forall_mem] at this
  have := this fn (Array.mem_of_getElem? h)
  simpa using this
theorem stands : ∀ f g, Hoas.Xs f = some g → StandOk Try.prog f g := by
  intro f g h
  unfold Hoas.Xs at h
  split at h
  · rename_i hf
    cases h
    subst hf
    exact append_stand (e := 25) ⟨Try.f25, Try.func25, by kernel_rfl⟩ (fun Bs Bo b off cap zs h1 h2 w h3 h4 h5 h6 => Va.append_run Bs Bo b off cap zs h1 h2 w h3 h4 h5 h6)
  · cases h

theorem walk {a b c : Int} (ha : 0 ≤ a ∧ a < 65536) (hb : 0 ≤ b ∧ b < 65536) (hc : 0 ≤ c ∧ c < 65536) (W : World) :
    Calls Try.prog 5 #[.agg #[.int .u16 a, .int .u16 b, .int .u16 c]] W fun e W' => e = .returned (.bool true) ∧ Below W.heap.size W W' := by
  have h := Hoas.between (σ := []) (fun o => Hoas.awake_run o) ha hb hc
  exact call_calls names stands h (inv_empty W) open_empty (AllL.cons (V_of_plain rfl) AllL.nil)

theorem laid : laidOutB Try.prog = true := by kernel_rfl
theorem readable : ∀ t ∈ Try.f5.params.toList, Try.prog.readableRec t = true ∧ t < Try.prog.types.size := by
  rw [Try.params5]
  intro t ht
  simp at ht
  subst ht
  exact ⟨by kernel_rfl, of_decide_eq_true (by kernel_rfl)⟩
set_option maxRecDepth 100000 in
theorem lifted (os : Os) (started : os.Started) (H : Type) (enc : TypeId × Value → H) :
    ReturnsInHanded {} Try.checked os 5 .any (Rows.voteBetweenSpec.pre6 enc Try.prog Try.f5 Rows.voteBetweenRow.domain false) (Rows.voteBetweenSpec.post enc Try.prog Try.f5 false true false false) := by
  refine returnsInHanded_of_change (C := Try.checked) own started (by kernel_rfl) Try.func5
    (ChangeSpec.witness6 (enc := enc) (C := Try.checked) false ⟨#[], #[.agg #[.int .u16 0, .int .u16 0, .int .u16 0]], []⟩ 8 (by kernel_rfl) (by kernel_rfl) (by kernel_rfl) (by kernel_rfl)) ?_
  intro W base args ds gs before hval0 hW hcnd _
  have hval : ∀ (j : Nat) t v, Try.f5.params[j]? = some t → args[j]? = some v → Value.okWide Try.prog W .any base t v := hval0
  have hW' := hW
  obtain ⟨p, q, hA0, hV, rfl, hfz, hnd⟩ := hW
  have hA : DataW.TrodAll enc Try.prog W 0 (fun _ => true) true Try.f5.params.toList args.toList ds p := hA0
  rw [Try.params5] at hA hval
  obtain ⟨v0, vs0, d0, ds0, p0, q0, hargs, rfl, rfl, h0, r0⟩ := trodAll_cons hA
  obtain ⟨rfl, rfl, rfl⟩ := trodAll_nil r0
  obtain rfl : args = #[v0] := by cases args; simp_all
  obtain ⟨rfl, rfl⟩ := trodVars_none hV
  have h0k := h0
  obtain ⟨a, b, c, rfl, wa, wb, wc⟩ := open_u3 (by kernel_rfl) Try.underlying25 (by kernel_rfl) (by kernel_rfl) (hval 0 35 v0 rfl rfl) h0
  refine (walk wa wb wc W).mono fun e W' ⟨he, hb⟩ => ?_
  subst he
  exact ⟨_, rfl, post_below laid hW' rfl rfl rfl readable hb (fun _ _ _ => (trodAll_cons_mk (shut_bool Try.underlying4 _) trodAll_mk0)) (ok_one (by kernel_rfl) rfl (okWide_bool_mk Try.underlying4 _))⟩

theorem over : Rows.voteBetweenRow.holds Try.pinned (OpenSpec.ofChange Rows.voteBetweenSpec) :=
  OpenClaim.holds_of_wide 5 Try.f5 rfl rfl rfl rfl rfl rfl rfl ⟨rfl, rfl, rfl, rfl, rfl⟩ rfl rfl rfl rfl rfl (by kernel_rfl) Try.func5 (by kernel_rfl)
    (of_decide_eq_true (by kernel_rfl)) (by unfold Func.isWrapper; first | (rw [if_pos (by decide +kernel)]; kernel_rfl) | (rw [if_neg (by decide +kernel)]; exact ⟨rfl, rfl⟩))
    (fun os started H enc _ => lifted os started H enc)

theorem proved : Rows.VoteBetweenSaid := over
end Go.Proofs.Ytaelaaimbkpmdaa.between
