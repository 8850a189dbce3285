/-
  What the functions of layer 12 compute, in the abstract machine.
-/
import Derived.Test.YtaelaaimbkpmdaaH12
import Derived.Test.YtaelaaimbkpmdaaEqs
namespace Go.Proofs.Ytaelaaimbkpmdaa.Hoas
open Go Go.Ab
attribute [local irreducible] Cl

@[simp] theorem nan_run (σ : List AObj) (x : Int) : Cl 44 [.int .u16 x] σ = some (.bool false, ⟨σ, []⟩) := by
  apply F44_call
  simp [F44]
@[simp] theorem less_run (σ : List AObj) (x y : Int) : Cl 34 [.int .u16 x, .int .u16 y] σ = some (.bool (decide (x < y)), ⟨σ, []⟩) := by
  apply F34_call
  unfold F34
  iterate 9 refine bstep (by first | (simp; rfl) | rfl) ?_
  exact congrArg some (gc_plain0' rfl)
theorem len64_run (σ : List AObj) : Cl 38 [.int .u64 3] σ = some (.int .i64 2, ⟨σ, []⟩) := by
  apply F38_call
  unfold F38
  refine bstep (by first | (simp; rfl) | rfl) ?_
  refine ifF ?_
  refine bstep (by first | (simp; rfl) | rfl) ?_
  refine ifF ?_
  refine bstep (by first | (simp; rfl) | rfl) ?_
  refine ifF ?_
  refine bstep (by first | (simp; rfl) | rfl) ?_
  refine bstep (x := .int .u8 2) (by kernel_rfl) ?_
  refine bstep (by first | (simp; rfl) | rfl) ?_
  refine bstep (by first | (simp; rfl) | rfl) ?_
  exact congrArg some (gc_plain0' rfl)
theorem len_run (σ : List AObj) : Cl 27 [.int .u64 3] σ = some (.int .i64 2, ⟨σ, []⟩) := by
  apply F27_call
  unfold F27
  refine ifF ?_
  refine cstep (len64_run σ) ?_
  exact congrArg some (gc_plain0' rfl)

abbrev R3 (σ : List AObj) (x y z : Int) : S := ⟨σ ++ [.arr [.int .u16 x, .int .u16 y, .int .u16 z] 0 true], []⟩
theorem w0 : IntKind.i64.wrap 0 = 0 := by decide
theorem w1 : IntKind.i64.wrap 1 = 1 := by decide
theorem w2 : IntKind.i64.wrap 2 = 2 := by decide
theorem w3 : IntKind.i64.wrap 3 = 3 := by decide

theorem ins_j0 {σ σ' : List AObj} {self1 : KF} {i x y z : Int} {r : Out} (h : self1 [(0, sl σ.length 0 3 1 0), (1, .int .i64 0), (2, .int .i64 3), (6, .int .i64 (IntKind.i64.wrap (i + 1)))] (R3 σ x y z) = some r) :
    S28_4 Cl iterL σ' self1 [(0, sl σ.length 0 3 1 0), (1, .int .i64 0), (2, .int .i64 3), (6, .int .i64 i), (7, .int .i64 0)] (R3 σ x y z) = some r := by
  refine S28_4_intro ?_
  unfold B28_4
  iterate 12 refine bstep (by first | (simp [w0, w1, w2]; rfl) | rfl) ?_
  refine ifF ?_
  refine bstep (by first | (simp [w0, w1, w2]; rfl) | rfl) ?_
  exact h
theorem ins_j1 {σ σ' : List AObj} {self1 : KF} {i x y z : Int} {r : Out} (h : self1 [(0, sl σ.length 0 3 1 0), (1, .int .i64 0), (2, .int .i64 3), (6, .int .i64 (IntKind.i64.wrap (i + 1)))] (R3 σ (min x y) (max x y) z) = some r) :
    S28_4 Cl iterL σ' self1 [(0, sl σ.length 0 3 1 0), (1, .int .i64 0), (2, .int .i64 3), (6, .int .i64 i), (7, .int .i64 1)] (R3 σ x y z) = some r := by
  refine S28_4_intro ?_
  unfold B28_4
  by_cases hc : y < x
  · iterate 12 refine bstep (by first | (simp [w0, w1, w2, hc]; rfl) | rfl) ?_
    refine ifT ?_
    iterate 11 refine bstep (by first | (simp [w0, w1, w2, hc]; rfl) | rfl) ?_
    have e1 : min x y = y := by omega
    have e2 : max x y = x := by omega
    rw [e1, e2] at h
    exact ins_j0 h
  · iterate 12 refine bstep (by first | (simp [w0, w1, w2, hc]; rfl) | rfl) ?_
    refine ifF ?_
    refine bstep (by first | (simp [w0, w1, w2]; rfl) | rfl) ?_
    have e1 : min x y = x := by omega
    have e2 : max x y = y := by omega
    rw [e1, e2] at h
    exact h
theorem ins_j2 {σ σ' : List AObj} {self1 : KF} {i x y z : Int} {r : Out} (h1 : z < y → self1 [(0, sl σ.length 0 3 1 0), (1, .int .i64 0), (2, .int .i64 3), (6, .int .i64 (IntKind.i64.wrap (i + 1)))] (R3 σ (min x z) (max x z) y) = some r)
    (h2 : ¬z < y → self1 [(0, sl σ.length 0 3 1 0), (1, .int .i64 0), (2, .int .i64 3), (6, .int .i64 (IntKind.i64.wrap (i + 1)))] (R3 σ x y z) = some r) :
    S28_4 Cl iterL σ' self1 [(0, sl σ.length 0 3 1 0), (1, .int .i64 0), (2, .int .i64 3), (6, .int .i64 i), (7, .int .i64 2)] (R3 σ x y z) = some r := by
  refine S28_4_intro ?_
  unfold B28_4
  by_cases hc : z < y
  · iterate 12 refine bstep (by first | (simp [w0, w1, w2, hc]; rfl) | rfl) ?_
    refine ifT ?_
    iterate 11 refine bstep (by first | (simp [w0, w1, w2, hc]; rfl) | rfl) ?_
    exact ins_j1 (h1 hc)
  · iterate 12 refine bstep (by first | (simp [w0, w1, w2, hc]; rfl) | rfl) ?_
    refine ifF ?_
    refine bstep (by first | (simp [w0, w1, w2]; rfl) | rfl) ?_
    exact h2 hc

theorem ins_run (σ : List AObj) (x y z : Int) : Cl 28 [sl σ.length 0 3 1 0, .int .i64 0, .int .i64 3] (σ ++ [.arr [.int .u16 x, .int .u16 y, .int .u16 z] 0 true]) =
    some (.tuple #[], ⟨σ ++ [.arr [.int .u16 (min (min x y) z), .int .u16 (mid3 x y z), .int .u16 (max (max x y) z)] 0 true], []⟩) := by
  apply F28_call
  unfold F28
  refine bstep (by first | (simp; rfl) | rfl) ?_
  refine S28_1_intro ?_
  unfold B28_1
  refine bstep (by first | (simp [w1]; rfl) | rfl) ?_
  refine ifT ?_
  rw [w1]
  refine ins_j1 ?_
  refine S28_1_intro ?_
  unfold B28_1
  refine bstep (by first | (simp [w2]; rfl) | rfl) ?_
  refine ifT ?_
  rw [show (1 : Int) + 1 = 2 from rfl, w2]
  have last : ∀ p q t : Int, S28_1 Cl iterL (σ ++ [.arr [.int .u16 x, .int .u16 y, .int .u16 z] 0 true]) [(0, sl σ.length 0 3 1 0), (1, .int .i64 0), (2, .int .i64 3), (6, .int .i64 (IntKind.i64.wrap (2 + 1)))] (R3 σ p q t) = some (.tuple #[], R3 σ p q t) := by
    intro p q t
    refine S28_1_intro ?_
    unfold B28_1
    refine bstep (by first | (simp [w3]; rfl) | rfl) ?_
    refine ifF ?_
    refine bstep (x := .tuple #[]) rfl ?_
    simp [gc, refs, dedup]
    exact List.take_of_length_le (by simp)
  refine ins_j2 (fun hc => ?_) (fun hc => ?_)
  · rw [last]
    have e1 : min (min x y) z = min (min x y) z := rfl
    have e2 : max (min x y) z = mid3 x y z := by unfold mid3; omega
    have e3 : max x y = max (max x y) z := by omega
    rw [e2, ← e3]
  · rw [last]
    have e1 : min x y = min (min x y) z := by omega
    have e2 : max x y = mid3 x y z := by unfold mid3; omega
    have e3 : z = max (max x y) z := by omega
    rw [← e3, ← e1, ← e2]

theorem gc_unit {σ l : List AObj} {h : Nat} (hh : h = σ.length + l.length) : gc h (.tuple #[]) ⟨σ ++ l, []⟩ = (.tuple #[], ⟨σ ++ l, []⟩) := by
  simp [gc, refs, dedup]
  exact List.take_of_length_le (by simp; omega)
theorem pdq_run (σ : List AObj) (x y z m : Int) : Cl 26 [sl σ.length 0 3 1 0, .int .i64 0, .int .i64 3, .int .i64 m] (σ ++ [.arr [.int .u16 x, .int .u16 y, .int .u16 z] 0 true]) =
    some (.tuple #[], R3 σ (min (min x y) z) (mid3 x y z) (max (max x y) z)) := by
  apply F26_call
  unfold F26
  refine S26_2_intro ?_
  unfold B26_2
  refine bstep (by first | (simp [w3]; rfl) | rfl) ?_
  refine bstep (by first | (simp [w3]; rfl) | rfl) ?_
  refine ifT ?_
  refine cstep (ins_run σ x y z) ?_
  refine bstep (x := .tuple #[]) rfl ?_
  exact congrArg some (gc_unit (by simp))
theorem sort_run (σ : List AObj) (x y z : Int) : Cl 23 [sl σ.length 0 3 1 0] (σ ++ [.arr [.int .u16 x, .int .u16 y, .int .u16 z] 0 true]) =
    some (.tuple #[], R3 σ (min (min x y) z) (mid3 x y z) (max (max x y) z)) := by
  apply F23_call
  unfold F23
  refine bstep (by first | (simp [w3]; rfl) | rfl) ?_
  refine bstep (x := .int .u64 3) (by simp; decide) ?_
  refine cstep (len_run _) ?_
  refine cstep (pdq_run σ x y z 2) ?_
  refine bstep (x := .tuple #[]) rfl ?_
  exact congrArg some (gc_unit (by simp))
theorem app_run (σ : List AObj) {b bx f : Nat} {x y z : Int} (hbox : row ⟨σ, []⟩ bx = some [sl b 0 3 1 f]) (hf : f < 2) (hrow : row ⟨σ, []⟩ b = some [.int .u16 x, .int .u16 y, .int .u16 z]) :
    Cl 25 [.slice none 0 0, .func (.func 24) #[] #[ptr bx 0]] σ = some (sl σ.length 0 3 1 0, R3 σ x y z) := by
  unfold Cl
  refine call_stand (g := appendX 24) rfl ?_
  have hd : (2 * 1 + f) / 2 = 1 := by omega
  simp [appendX, ptr, hbox, sl, hrow, u16s, hd]
theorem gc_slice {σ : List AObj} {x y z : Int} : gc σ.length (sl σ.length 0 3 1 0) (R3 σ x y z) = (sl σ.length 0 3 1 0, R3 σ x y z) := by
  simp [gc, refs, refs2, refs1, refs0, sl, dedup, noFn, lone, plain1, renV, ren2, ren1, place]
theorem sorted_run (σ : List AObj) {b bx f : Nat} {x y z : Int} (hbox : row ⟨σ, []⟩ bx = some [sl b 0 3 1 f]) (hf : f < 2) (hrow : row ⟨σ, []⟩ b = some [.int .u16 x, .int .u16 y, .int .u16 z]) :
    Cl 17 [.func (.func 24) #[] #[ptr bx 0]] σ = some (sl σ.length 0 3 1 0, R3 σ (min (min x y) z) (mid3 x y z) (max (max x y) z)) := by
  have hc : Cl 22 [.func (.func 24) #[] #[ptr bx 0]] σ = some (sl σ.length 0 3 1 0, R3 σ x y z) := by
    apply F22_call
    unfold F22
    refine cstep (app_run σ hbox hf hrow) ?_
    exact congrArg some gc_slice
  apply F17_call
  unfold F17
  refine cstep hc ?_
  refine cstep (sort_run σ x y z) ?_
  exact congrArg some gc_slice
end Go.Proofs.Ytaelaaimbkpmdaa.Hoas
