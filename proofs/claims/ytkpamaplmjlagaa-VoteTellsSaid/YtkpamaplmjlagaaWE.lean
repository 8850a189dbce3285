/-
  VoteTells, in the machine of values.
-/
import Derived.Test.YtkpamaplmjlagaaWD
namespace Go.Proofs.Ytkpamaplmjlagaa.Hoas
open Go Go.Vm
attribute [local congr] bind_congr1 ifVV_congr1
attribute [local irreducible] Cl

theorem rvote_run (σ : List VObj) (p : Pt) (hk : 0 ≤ p.k) {v : VV} {l : List Int} (hv : IsSl 1 (us l) v) (hu : ∀ x ∈ l, 0 ≤ x ∧ x < 65536) (hlen : l.length < 2 ^ 60) : Cl id_triuneref12_Vote [p.v, v] σ = some (res2 (voteP p l), ⟨σ, [], []⟩) := by
  apply call_triuneref12_Vote
  have h1 := rmedian_run (σ ++ [.arr [VI .i64 p.k, VI .i64 p.a, VI .i64 p.t, VI .i64 p.b, VI .i64 p.s] 0 true]) hv hu
  have h2 := rmajority_run (σ ++ [.arr [VI .i64 p.k, VI .i64 p.a, VI .i64 p.t, VI .i64 p.b, VI .i64 p.s] 0 true]) hv (fun x hx => (hu x hx).1) hlen
  by_cases h : p.k = 0 ∨ p.k = 1
  · have hw : voter p l = median l := if_pos h
    have hle : p.k ≤ 1 := by omega
    cases hm : (median l).2 <;> simp [F_triuneref12_Vote, J_triuneref12_Vote_14, Pt.v, h1, h2, res2, voteP, hw, hm, hle]
  · have hw : voter p l = majority l := if_neg h
    have hle : ¬p.k ≤ 1 := by omega
    cases hm : (majority l).2 <;> simp [F_triuneref12_Vote, J_triuneref12_Vote_14, Pt.v, h1, h2, res2, voteP, hw, hm, hle]

theorem tells (p : Pt) {v : VV} {l : List Int} (hv : IsSl 1 (us l) v) (hu : ∀ x ∈ l, 0 ≤ x ∧ x < 65536) {a b : Int} (ha : 0 ≤ a ∧ a < 65536) (hb : 0 ≤ b ∧ b < 65536) :
    Cl id_triunelaw12_VoteTells [p.v, v, .agg [VI .u16 a, VI .u16 b]] [] = some (VB true, ⟨[], [], []⟩) := by
  apply call_triunelaw12_VoteTells
  have hm : ∀ σ, Cl id_triunelaw10_May [.sl 1 5 [p.v]] σ = some (VB (mayL [p]), ⟨σ, [], []⟩) := fun σ => May_run σ (pts := [p]) (IsSl.sl (by decide)) (by simp)
  by_cases hlen : l.length ≤ 100
  · have hl60 : l.length < 2 ^ 60 := by omega
    have g1 := fun σ => median_run σ hv
    have g2 := fun σ => rmedian_run σ hv hu
    have g3 := fun σ => majority_run σ hv (fun x hx => (hu x hx).1) hl60
    have g4 := fun σ => rmajority_run σ hv (fun x hx => (hu x hx).1) hl60
    have g5 := fun σ => vote_run σ p hv (fun x hx => (hu x hx).1) hl60
    have g7 := fun σ => apart_run σ p ha hb
    have g8 := fun σ => rapart_run σ p ha hb
    have hn100 : ¬(100 : Int) < l.length := by omega
    cases hmay : mayL [p] with
    | false =>
      simp only [Pt.v] at hm
      simp [F_triunelaw12_VoteTells, Pt.v, awake12, bslV, putEs, hm, hmay]
    | true =>
      have hk : 0 ≤ p.k := by
        have := may_ge hmay
        simp [Pt.may, inB] at this
        omega
      have g6 := fun σ => rvote_run σ p hk hv hu hl60
      simp only [Pt.v] at hm g5 g6 g7 g8
      simp [F_triunelaw12_VoteTells, Pt.v, awake12, bslV, putEs, hm, hmay, hv.len, us, hn100, g1, g2, g3, g4, g5, g6, g7, g8, res2, binqV_eqlb under4, flOk1]
  · have hn100 : (100 : Int) < l.length := by omega
    simp only [Pt.v] at hm
    cases hmay : mayL [p] <;> simp [F_triunelaw12_VoteTells, Pt.v, awake12, bslV, putEs, hm, hmay, hv.len, us, hn100]
end Go.Proofs.Ytkpamaplmjlagaa.Hoas
