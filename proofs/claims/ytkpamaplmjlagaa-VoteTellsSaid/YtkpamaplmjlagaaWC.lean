/-
  VoteTurned, in the machine of values.
-/
import Derived.Test.YtkpamaplmjlagaaWB
namespace Go.Proofs.Ytkpamaplmjlagaa.Hoas
open Go Go.Vm
attribute [local congr] bind_congr1 ifVV_congr1
attribute [local irreducible] Cl

attribute [local semireducible] Cl in
theorem awake12 (o1 o2 : VObj) : Cl id_triunelaw12_awake [] [o1, o2] = some (VB true, ⟨[o1, o2], [], []⟩) := callV_fuel 40 (by kernel_rfl)

theorem mid3_perm (a b c : Int) : mid3 a c b = mid3 a b c ∧ mid3 b a c = mid3 a b c ∧ mid3 b c a = mid3 a b c ∧ mid3 c a b = mid3 a b c ∧ mid3 c b a = mid3 a b c := by unfold mid3; omega
theorem half2_comm (a b : Int) : half2 a b = half2 b a := by unfold half2; rw [BitVec.and_comm, BitVec.xor_comm]
theorem maj3 (a b c : Int) : majority [a, b, c] = if 2 ≤ a ∨ 2 ≤ b ∨ 2 ≤ c then (0, false) else if (if a = 0 then 1 else 0) + (if b = 0 then 1 else 0) + (if c = 0 then 1 else 0) < (2 : Int) then (1, true) else (0, true) := by
  by_cases ha : 2 ≤ a <;> by_cases hb : 2 ≤ b <;> by_cases hc : 2 ≤ c <;> by_cases ha0 : a = 0 <;> by_cases hb0 : b = 0 <;> by_cases hc0 : c = 0 <;> simp [majority, majB, ha, hb, hc, ha0, hb0, hc0]
theorem maj2 (a b : Int) : majority [a, b] = if 2 ≤ a ∨ 2 ≤ b then (0, false) else if (a = 0) = (b = 0) then (if a = 0 then 0 else 1, true) else (0, false) := by
  by_cases ha : 2 ≤ a <;> by_cases hb : 2 ≤ b <;> by_cases ha0 : a = 0 <;> by_cases hb0 : b = 0 <;> simp [majority, majB, ha, hb, ha0, hb0]
theorem voter3 (p : Pt) (a b c : Int) : voter p [a, c, b] = voter p [a, b, c] ∧ voter p [b, a, c] = voter p [a, b, c] ∧ voter p [b, c, a] = voter p [a, b, c] ∧ voter p [c, a, b] = voter p [a, b, c] ∧ voter p [c, b, a] = voter p [a, b, c] := by
  unfold voter
  split
  · have h := mid3_perm a b c
    simp only [median, h, and_self]
  · simp only [maj3]
    refine ⟨?_, ?_, ?_, ?_, ?_⟩ <;> (repeat' split) <;> first | rfl | omega
theorem voter2 (p : Pt) (a b : Int) : voter p [b, a] = voter p [a, b] := by
  unfold voter
  split
  · simp only [median, half2_comm a b]
  · simp only [maj2]
    by_cases ha : 2 ≤ a <;> by_cases hb : 2 ≤ b <;> by_cases ha0 : a = 0 <;> by_cases hb0 : b = 0 <;> simp [ha, hb, ha0, hb0]
theorem vote3 (p : Pt) (a b c : Int) : voteP p [a, c, b] = voteP p [a, b, c] ∧ voteP p [b, a, c] = voteP p [a, b, c] ∧ voteP p [b, c, a] = voteP p [a, b, c] ∧ voteP p [c, a, b] = voteP p [a, b, c] ∧ voteP p [c, b, a] = voteP p [a, b, c] := by
  have h := voter3 p a b c
  unfold voteP
  simp only [h, and_self]
theorem vote2 (p : Pt) (a b : Int) : voteP p [b, a] = voteP p [a, b] := by
  unfold voteP; rw [voter2 p a b]

theorem under4 : Try.prog.underlying 4 = some .bool := by kernel_rfl
theorem may_ge {p : Pt} (h : mayL [p] = true) : p.may = true := by
  cases hc : p.may with
  | true => rfl
  | false =>
    exfalso
    have : ([p].all Pt.may) = false := by simpa using hc
    unfold mayL checkN at h
    rw [if_neg (by simp), if_pos this] at h
    simp at h
theorem turned (p : Pt) {a b c : Int} (ha : 0 ≤ a ∧ a < 65536) (hb : 0 ≤ b ∧ b < 65536) (hc : 0 ≤ c ∧ c < 65536) :
    Cl id_triunelaw12_VoteTurned [p.v, .agg [VI .u16 a, VI .u16 b, VI .u16 c]] [] = some (VB true, ⟨[], [], []⟩) := by
  apply call_triunelaw12_VoteTurned
  have hm : ∀ σ, Cl id_triunelaw10_May [.sl 1 5 [p.v]] σ = some (VB (mayL [p]), ⟨σ, [], []⟩) := fun σ => May_run σ (pts := [p]) (IsSl.sl (by decide)) (by simp)
  have hv3 : ∀ (σ : List VObj) (x y z : Int), 0 ≤ x → 0 ≤ y → 0 ≤ z → Cl id_vote_Vote [p.v, .sl 1 1 [VI .u16 x, VI .u16 y, VI .u16 z]] σ = some (res2 (voteP p [x, y, z]), ⟨σ, [], []⟩) := fun σ x y z h1 h2 h3 => vote_run σ p (l := [x, y, z]) (IsSl.sl (by decide)) (by simp [h1, h2, h3]) (by simp)
  have hv2 : ∀ (σ : List VObj) (x y : Int), 0 ≤ x → 0 ≤ y → Cl id_vote_Vote [p.v, .sl 1 1 [VI .u16 x, VI .u16 y]] σ = some (res2 (voteP p [x, y]), ⟨σ, [], []⟩) := fun σ x y h1 h2 => vote_run σ p (l := [x, y]) (IsSl.sl (by decide)) (by simp [h1, h2]) (by simp)
  have haa := fun σ => apart_run σ p ha ha
  have hab := fun σ => apart_run σ p ha hb
  have hba := fun σ => apart_run σ p hb ha
  obtain ⟨e1, e2, e3, e4, e5⟩ := vote3 p a b c
  have e6 := vote2 p a b
  simp only [Pt.v] at hm hv3 hv2 haa hab hba
  cases hmay : mayL [p] with
  | false => simp [F_triunelaw12_VoteTurned, Pt.v, awake12, bslV, putEs, hm, hmay]
  | true =>
    have hb0 : ¬p.b < 0 := by
      have := may_ge hmay
      simp only [Pt.may, Bool.and_eq_true] at this
      obtain ⟨_, h⟩ := this
      split at h
      · simp [inB] at h; omega
      · simp at h; omega
    simp [F_triunelaw12_VoteTurned, Pt.v, awake12, bslV, putEs, hm, hmay, hv3, ha, hb, hc, res2]
    iterate 5
      refine S_triunelaw12_VoteTurned_11_intro ?_
      simp [B_triunelaw12_VoteTurned_11, hv3, ha, hb, hc, res2, e1, e2, e3, e4, e5, binqV_neqb under4, wrap64]
    refine S_triunelaw12_VoteTurned_11_intro ?_
    have e7 : max b a - min b a = max a b - min a b := by omega
    simp [B_triunelaw12_VoteTurned_11, bslV, putEs, hv2, ha, hb, res2, e6, binqV_eqlb under4, haa, hab, hba, e7, flOk1, hb0]
end Go.Proofs.Ytkpamaplmjlagaa.Hoas
