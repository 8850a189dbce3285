/-
  What the functions of layer 12 compute, in the abstract machine.
-/
import Derived.Test.YtaelaaimbkpmdaaV12
import Derived.Test.YtaelaaimbkpmdaaEqs
namespace Go.Proofs.Ytaelaaimbkpmdaa.Hoas
open Go Go.Ab
attribute [local irreducible] Cl callF binq pMM binn pUn pConv pIndex boxc bldSl appendA idxArr idxSl ld1 ldn stv mkFn
theorem between {σ : List AObj} (hA : ∀ o, Cl 6 [] (σ ++ [o]) = some (.bool true, ⟨σ ++ [o], []⟩)) {a b c : Int} (ha : 0 ≤ a ∧ a < 65536) (hb : 0 ≤ b ∧ b < 65536) (hc : 0 ≤ c ∧ c < 65536) :
    Cl 5 [.agg #[.int .u16 a, .int .u16 b, .int .u16 c]] σ = some (.bool true, ⟨σ, []⟩) := by
  have hm : ∀ x : Int, 0 ≤ x → (x.tmod 2 = 0 ∨ x.tmod 2 = 1) := fun x hx => by rw [Int.tmod_eq_emod_of_nonneg hx]; omega
  have e1 := half2_eq ha hb
  have e2 : mid3 (a.tmod 2) (a.tmod 2) (c.tmod 2) = a.tmod 2 := by
    rcases hm a ha.1 with h | h <;> rcases hm c hc.1 with h' | h' <;> rw [h, h'] <;> decide
  have q1 : (if b < a then b else a) ≤ mid3 a b c := by unfold mid3; split <;> omega
  have q2 : mid3 a b c ≤ (if a < b then b else a) := by unfold mid3; split <;> omega
  have q3 : (if b < a then b else a) ≤ half2 a b := by rw [e1]; split <;> omega
  have q4 : half2 a b ≤ (if a < b then b else a) := by rw [e1]; split <;> omega
  apply F5_call
  unfold F5
  refine bstep (by first | (simp [bldSl, Instr.fill, mkCells, List.replicate, binq_rem, q1, q2, q3, q4, e2]; rfl) | rfl) ?_
  refine cstep (hA _) ?_
  iterate 7 refine bstep (by first | (simp [bldSl, Instr.fill, mkCells, List.replicate, binq_rem, q1, q2, q3, q4, e2]; rfl) | rfl) ?_
  refine cstep (median3 (x := a) (y := b) (z := c) (by simp)) ?_
  iterate 3 refine bstep (by first | (simp [bldSl, Instr.fill, mkCells, List.replicate, binq_rem, q1, q2, q3, q4, e2]; rfl) | rfl) ?_
  refine cstep (median2 (x := a) (y := b) (by simp)) ?_
  iterate 8 refine bstep (by first | (simp [bldSl, Instr.fill, mkCells, List.replicate, binq_rem, q1, q2, q3, q4, e2]; rfl) | rfl) ?_
  refine cstep (maj3 (hm a ha.1) (hm a ha.1) (hm c hc.1) (by simp)) ?_
  iterate 48 refine bstep (by first | (simp [bldSl, Instr.fill, mkCells, List.replicate, binq_rem, q1, q2, q3, q4, e2]; rfl) | rfl) ?_
  exact congrArg some (gc_plain' rfl)
end Go.Proofs.Ytaelaaimbkpmdaa.Hoas
