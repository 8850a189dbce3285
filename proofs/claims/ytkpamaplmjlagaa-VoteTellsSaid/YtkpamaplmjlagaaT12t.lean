/-
  VoteTells: at every input the law returns true, and its arguments read behind the call as they did before; no conditions.
-/
import Derived.Test.YtkpamaplmjlagaaTA
import Derived.Test.YtkpamaplmjlagaaWE
namespace Go.Proofs.Ytkpamaplmjlagaa.tells
open Go Go.ChangeShapes Go.WideShapes Go.ChangeAt Go.RowKit Go.Vm common
set_option linter.unusedVariables false

abbrev shs : List Sh := [.st [.int .i64, .int .i64, .int .i64, .int .i64, .int .i64], .sl 1 (.int .u16), .st [.int .u16, .int .u16]]
theorem shapes : Try.f4.params.toList.mapM (shOf Try.prog 8) = some shs := by kernel_rfl
theorem law : ∀ xs, HasE shs xs → ∃ vs, callLV Try.prog Hoas.Xs Hoas.Hints 4 xs [] = some (VB true, vs) := by
  intro xs h
  cases h with
  | cons h0 h =>
  cases h with
  | cons h1 h =>
  cases h with
  | cons h2 h =>
  cases h
  cases h0 with
  | st h0 =>
  cases h0 with
  | cons a0 h0 =>
  cases h0 with
  | cons a1 h0 =>
  cases h0 with
  | cons a2 h0 =>
  cases h0 with
  | cons a3 h0 =>
  cases h0 with
  | cons a4 h0 =>
  cases h0
  cases a0
  cases a1
  cases a2
  cases a3
  cases a4
  cases h2 with
  | st h2 =>
  cases h2 with
  | cons b0 h2 =>
  cases h2 with
  | cons b1 h2 =>
  cases h2
  cases b0 with
  | int b0 =>
  cases b1 with
  | int b1 =>
  cases h1 with
  | nil => exact ⟨_, Hoas.tells ⟨_, _, _, _, _⟩ (l := []) (.nil rfl) (by simp) (Ab.u16_bounds b0) (Ab.u16_bounds b1)⟩
  | sl hl h1 hk =>
    obtain ⟨l, rfl, hw⟩ := ints_of _ h1
    exact ⟨_, Hoas.tells ⟨_, _, _, _, _⟩ (l := l) (.sl (by decide)) (fun x hx => Ab.u16_bounds (hw x hx)) (Ab.u16_bounds b0) (Ab.u16_bounds b1)⟩

theorem readable : ∀ t ∈ Try.f4.params.toList, Try.prog.readableRec t = true ∧ t < Try.prog.types.size := by
  have : (Try.f4.params.toList.all fun t => Try.prog.readableRec t && decide (t < Try.prog.types.size)) = true := by kernel_rfl
  intro t ht
  have := List.all_eq_true.1 this t ht
  simpa using this
set_option maxRecDepth 100000 in
theorem lifted (os : Os) (started : os.Started) (H : Type) (enc : TypeId × Value → H) :
    ReturnsInHanded {} Try.checked os 4 .any (Rows.voteTellsSpec.pre6 enc Try.prog Try.f4 Rows.voteTellsRow.domain false) (Rows.voteTellsSpec.post enc Try.prog Try.f4 false true false false) := by
  refine returnsInHanded_of_change (C := Try.checked) own started (by kernel_rfl) Try.func4
    (ChangeSpec.witness6 (enc := enc) (C := Try.checked) false ⟨#[], #[.agg #[.int .i64 0, .int .i64 0, .int .i64 0, .int .i64 0, .int .i64 0], .slice none 0 0, .agg #[.int .u16 0, .int .u16 0]], []⟩ 8 (by kernel_rfl) (by kernel_rfl) (by kernel_rfl) (by kernel_rfl)) ?_
  intro W base args ds gs before hval hW hcnd _
  have hW' := hW
  obtain ⟨p, q, hA, hV, rfl, hfz, hnd⟩ := hW
  obtain ⟨rfl, rfl⟩ := trodVars_none hV
  refine (law_calls pairs names stands shapes law hA (fun j t v ht hv => hval j t v (by simpa using ht) hv)).mono fun e W' ⟨he, hb⟩ => ?_
  subst he
  have hds : ∃ d1 d2 d3, ds = [d1, d2, d3] := by
    rw [Try.params4] at hA
    obtain ⟨v0, vs0, d0, ds0, p0, q0, hargs, rfl, rfl, h0, r0⟩ := trodAll_cons hA
    obtain ⟨v1, vs1, d1, ds1, p1, q1, hargs1, rfl, rfl, h1, r1⟩ := trodAll_cons r0
    obtain ⟨v2, vs2, d2, ds2, p2, q2, hargs2, rfl, rfl, h2, r2⟩ := trodAll_cons r1
    obtain ⟨_, rfl, _⟩ := trodAll_nil r2
    exact ⟨_, _, _, rfl⟩
  obtain ⟨d1, d2, d3, rfl⟩ := hds
  exact ⟨_, rfl, Ab.post_below laid hW' rfl rfl rfl readable hb (fun _ _ _ => (trodAll_cons_mk (shut_bool Try.underlying4 _) trodAll_mk0)) (ok_one (by kernel_rfl) rfl (okWide_bool_mk Try.underlying4 _))⟩

theorem over : Rows.voteTellsRow.holds Try.pinned (OpenSpec.ofChange Rows.voteTellsSpec) :=
  OpenClaim.holds_of_wide 4 Try.f4 rfl rfl rfl rfl rfl rfl rfl ⟨rfl, rfl, rfl, rfl, rfl⟩ rfl rfl rfl rfl rfl (by kernel_rfl) Try.func4 (by kernel_rfl)
    (of_decide_eq_true (by kernel_rfl)) (by unfold Func.isWrapper; first | (rw [if_pos (by decide +kernel)]; kernel_rfl) | (rw [if_neg (by decide +kernel)]; exact ⟨rfl, rfl⟩))
    (fun os started H enc _ => lifted os started H enc)

theorem proved : Rows.VoteTellsSaid := over
end Go.Proofs.Ytkpamaplmjlagaa.tells
#print axioms Go.Proofs.Ytkpamaplmjlagaa.tells.proved
