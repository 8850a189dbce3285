/-
  VoteTurned: at every input the law returns true, and its arguments read behind the call as they did before; no conditions.
-/
import Derived.Test.YtkpamaplmjlagaaRows
import Derived.Test.YtkpamaplmjlagaaWC
import Derived.Test.YtkpamaplmjlagaaVBridge
import Derived.Test.YtkpamaplmjlagaaStand
import Derived.Test.YtkpamaplmjlagaaAVa2
namespace Go.Proofs.Ytkpamaplmjlagaa.turned
open Go Go.ChangeShapes Go.WideShapes Go.ChangeAt Go.RowKit Go.Vm
set_option linter.unusedVariables false

section read
variable {P : Program} {H : Type} {enc : TypeId × Value → H} {w : World} {base : Nat} {sp : Nat → Bool} {held : Bool} {fuel : Nat} {t : TypeId} {cs : List Value} {x : DataW H × List MemPlace}
/-- The cells of a struct: field by field. -/
theorem trod_struct {fs : Array Field} (ht : P.underlying t = some (.struct fs)) (h : DataW.trod enc P w base sp held fuel t cs = some x) :
    ∃ m, cs.length = P.cellsOf t ∧ ∀ (i : Nat) f, fs.toList[i]? = some f → ∃ y, DataW.trod enc P w base sp held m f.type ((cs.drop f.offset).take (P.cellsOf f.type)) = some y := by
  cases fuel with
  | zero => simp [DataW.trod] at h
  | succ m =>
    unfold DataW.trod at h
    rw [ht] at h
    have : (if cs.length = P.cellsOf t then (fs.toList.mapM fun f => DataW.trod enc P w base sp held m f.type ((cs.drop f.offset).take (P.cellsOf f.type))).map fun xs => (DataW.agg (xs.map (·.1)), xs.flatMap (·.2)) else none) = some x := by
      simpa using h
    split at this
    · rename_i hl
      simp only [Option.map_eq_some_iff] at this
      obtain ⟨xs, hx, _⟩ := this
      refine ⟨m, hl, fun i f hf => ?_⟩
      have hg := mapM_some_get hx i f hf
      have hlen := mapM_some_length hx
      have hi := (List.getElem?_eq_some_iff.1 hf).1
      exact ⟨_, hg.trans (List.getElem?_eq_getElem (by omega))⟩
    · cases this
theorem okWide_struct {fs : Array Field} {r : Reach} {b0 : Nat} {v : Value} (ht : P.underlying t = some (.struct fs)) (h : Value.okWide P w r b0 t v) : ∃ l : List Value, v = .agg l.toArray := by
  unfold Value.okWide at h
  rw [ht] at h
  obtain ⟨cs, rfl, _, _⟩ := h
  exact ⟨cs.toList, by simp⟩
end read
variable {H : Type} {enc : TypeId × Value → H} {w : World} {base : Nat} {sp : Nat → Bool} {held : Bool}
set_option maxRecDepth 100000 in
/-- A point. -/
theorem open_point {r : Reach} {b0 : Nat} {v : Value} {d : DataW H} {ps : List MemPlace} (hval : Value.okWide Try.prog w r b0 58 v) (hd : DataW.Trod enc Try.prog w base sp held 58 v d ps) :
    ∃ k a t b s : Int, v = .agg #[.int .i64 k, .int .i64 a, .int .i64 t, .int .i64 b, .int .i64 s] := by
  obtain ⟨l, rfl⟩ := okWide_struct Try.underlying58 hval
  obtain ⟨fuel, h0⟩ := hd
  obtain ⟨m, hl, hp⟩ := trod_struct Try.underlying58 h0
  have hc3 : Try.prog.cellsOf 3 = 1 := by kernel_rfl
  have hc58 : Try.prog.cellsOf 58 = 5 := by kernel_rfl
  rw [hc58] at hl
  have hcells : (Value.agg l.toArray).cells.toList = l := rfl
  rw [hcells] at hl hp
  match l, hl with
  | [x0, x1, x2, x3, x4], _ =>
    obtain ⟨y0, g0⟩ := hp 0 _ rfl
    obtain ⟨y1, g1⟩ := hp 1 _ rfl
    obtain ⟨y2, g2⟩ := hp 2 _ rfl
    obtain ⟨y3, g3⟩ := hp 3 _ rfl
    obtain ⟨y4, g4⟩ := hp 4 _ rfl
    simp only [hc3] at g0 g1 g2 g3 g4
    obtain ⟨a0, e0, _, _⟩ := DataW.trod_int Try.underlying3 g0
    obtain ⟨a1, e1, _, _⟩ := DataW.trod_int Try.underlying3 g1
    obtain ⟨a2, e2, _, _⟩ := DataW.trod_int Try.underlying3 g2
    obtain ⟨a3, e3, _, _⟩ := DataW.trod_int Try.underlying3 g3
    obtain ⟨a4, e4, _, _⟩ := DataW.trod_int Try.underlying3 g4
    simp at e0 e1 e2 e3 e4
    subst e0 e1 e2 e3 e4
    exact ⟨_, _, _, _, _, rfl⟩

theorem own : ownKnob Try.prog.godebug = none := by kernel_rfl
theorem names : Ab.NamesOk Try.prog := by
  refine ⟨fun f fn h => ?_, by kernel_rfl⟩
  have : (Try.prog.funcs.all fun fn => !(fn.name == "runtime.NumGoroutine")) = true := by kernel_rfl
  rw [Array.all_eq_true_iff_forall_mem] at this
  have := this fn (Array.mem_of_getElem? h)
  simpa using this
def Xa : FuncId → Option (List Value → List Ab.AObj → Option Ab.Out) := fun f => if f = 140 then some (Ab.appendX 120) else none
theorem pairs : ∀ f, match Hoas.Xs f, Xa f with | none, none => True | some g, some g' => StandV g g' | _, _ => False := by
  intro f
  unfold Hoas.Xs Xa
  by_cases hf : f = 140
  · rw [if_pos hf, if_pos hf]; exact appendX_standV 120
  · rw [if_neg hf, if_neg hf]; trivial
theorem stands : ∀ f g, Xa f = some g → Ab.StandOk Try.prog f g := by
  intro f g h
  unfold Xa at h
  split at h
  · rename_i hf
    cases h
    subst hf
    exact Ab.append_stand (e := 43) ⟨Try.f140, Try.func140, by kernel_rfl⟩ (fun Bs Bo b off cap zs h1 h2 w h3 h4 h5 h6 => Va.append_run Bs Bo b off cap zs h1 h2 w h3 h4 h5 h6)
  · cases h

theorem walk (k a t b s : Int) {x y z : Int} (hx : 0 ≤ x ∧ x < 65536) (hy : 0 ≤ y ∧ y < 65536) (hz : 0 ≤ z ∧ z < 65536) (W : World) :
    Calls Try.prog 5 #[.agg #[.int .i64 k, .int .i64 a, .int .i64 t, .int .i64 b, .int .i64 s], .agg #[.int .u16 x, .int .u16 y, .int .u16 z]] W fun e W' => e = .returned (.bool true) ∧ Below W.heap.size W W' := by
  have h := Hoas.turned ⟨k, a, t, b, s⟩ hx hy hz
  refine callV_calls pairs names stands h Rel.empty (fun _ _ h => nomatch h) (ws := [.agg #[.int .i64 k, .int .i64 a, .int .i64 t, .int .i64 b, .int .i64 s], .agg #[.int .u16 x, .int .u16 y, .int .u16 z]]) ?_
    (Ab.inv_empty W) Ab.open_empty (Ab.AllL.cons (Ab.V_of_plain rfl) (Ab.AllL.cons (Ab.V_of_plain rfl) Ab.AllL.nil))
  exact .cons (VR_ofV (v := .agg #[.int .i64 k, .int .i64 a, .int .i64 t, .int .i64 b, .int .i64 s]) rfl) (.cons (VR_ofV (v := .agg #[.int .u16 x, .int .u16 y, .int .u16 z]) rfl) .nil)

theorem laid : laidOutB Try.prog = true := by kernel_rfl
theorem readable : ∀ t ∈ Try.f5.params.toList, Try.prog.readableRec t = true ∧ t < Try.prog.types.size := by
  rw [Try.params5]
  intro t ht
  simp at ht
  rcases ht with rfl | rfl
  · exact ⟨by kernel_rfl, of_decide_eq_true (by kernel_rfl)⟩
  · exact ⟨by kernel_rfl, of_decide_eq_true (by kernel_rfl)⟩
set_option maxRecDepth 100000 in
theorem lifted (os : Os) (started : os.Started) (H : Type) (enc : TypeId × Value → H) :
    ReturnsInHanded {} Try.checked os 5 .any (Rows.voteTurnedSpec.pre6 enc Try.prog Try.f5 Rows.voteTurnedRow.domain false) (Rows.voteTurnedSpec.post enc Try.prog Try.f5 false true false false) := by
  refine returnsInHanded_of_change (C := Try.checked) own started (by kernel_rfl) Try.func5
    (ChangeSpec.witness6 (enc := enc) (C := Try.checked) false ⟨#[], #[.agg #[.int .i64 0, .int .i64 0, .int .i64 0, .int .i64 0, .int .i64 0], .agg #[.int .u16 0, .int .u16 0, .int .u16 0]], []⟩ 8 (by kernel_rfl) (by kernel_rfl) (by kernel_rfl) (by kernel_rfl)) ?_
  intro W base args ds gs before hval0 hW hcnd _
  have hval : ∀ (j : Nat) t v, Try.f5.params[j]? = some t → args[j]? = some v → Value.okWide Try.prog W .any base t v := hval0
  have hW' := hW
  obtain ⟨p, q, hA0, hV, rfl, hfz, hnd⟩ := hW
  have hA : DataW.TrodAll enc Try.prog W 0 (fun _ => true) true Try.f5.params.toList args.toList ds p := hA0
  rw [Try.params5] at hA hval
  obtain ⟨v0, vs0, d0, ds0, p0, q0, hargs, rfl, rfl, h0, r0⟩ := trodAll_cons hA
  obtain ⟨v1, vs1, d1, ds1, p1, q1, hargs1, rfl, rfl, h1, r1⟩ := trodAll_cons r0
  obtain ⟨rfl, rfl, rfl⟩ := trodAll_nil r1
  obtain rfl : args = #[v0, v1] := by cases args; simp_all
  obtain ⟨rfl, rfl⟩ := trodVars_none hV
  obtain ⟨k, a, t, b, s, rfl⟩ := open_point (hval 0 58 v0 rfl rfl) h0
  obtain ⟨x, y, z, rfl, wx, wy, wz⟩ := Ab.open_u3 Try.underlying65 Try.underlying43 (by kernel_rfl) (by kernel_rfl) (hval 1 65 v1 rfl rfl) h1
  refine (walk k a t b s wx wy wz W).mono fun e W' ⟨he, hb⟩ => ?_
  subst he
  exact ⟨_, rfl, Ab.post_below laid hW' rfl rfl rfl readable hb (fun _ _ _ => (trodAll_cons_mk (shut_bool Try.underlying4 _) trodAll_mk0)) (ok_one (by kernel_rfl) rfl (okWide_bool_mk Try.underlying4 _))⟩

theorem over : Rows.voteTurnedRow.holds Try.pinned (OpenSpec.ofChange Rows.voteTurnedSpec) :=
  OpenClaim.holds_of_wide 5 Try.f5 rfl rfl rfl rfl rfl rfl rfl ⟨rfl, rfl, rfl, rfl, rfl⟩ rfl rfl rfl rfl rfl (by kernel_rfl) Try.func5 (by kernel_rfl)
    (of_decide_eq_true (by kernel_rfl)) (by unfold Func.isWrapper; first | (rw [if_pos (by decide +kernel)]; kernel_rfl) | (rw [if_neg (by decide +kernel)]; exact ⟨rfl, rfl⟩))
    (fun os started H enc _ => lifted os started H enc)

theorem proved : Rows.VoteTurnedSaid := over
end Go.Proofs.Ytkpamaplmjlagaa.turned
#print axioms Go.Proofs.Ytkpamaplmjlagaa.turned.proved
