/-
  Votes (layer 12), in the machine of values.
-/
import Derived.Test.YtkpamaplmjlagaaWA
namespace Go.Proofs.Ytkpamaplmjlagaa.Hoas
open Go Go.Vm
attribute [local congr] bind_congr1 ifVV_congr1
attribute [local irreducible] Cl

def us (l : List Int) : List VV := l.map (VI .u16)
@[simp] theorem nan_run (σ : List VObj) (x : Int) : Cl id_cmp_isNaN_uint16 [VI .u16 x] σ = some (VB false, ⟨σ, [], []⟩) := by
  apply call_cmp_isNaN_uint16
  simp [F_cmp_isNaN_uint16]
@[simp] theorem less_run (σ : List VObj) (x y : Int) : Cl id_cmp_Less_uint16 [VI .u16 x, VI .u16 y] σ = some (VB (decide (x < y)), ⟨σ, [], []⟩) := by
  apply call_cmp_Less_uint16
  simp [F_cmp_Less_uint16]
theorem values_run (σ : List VObj) {v : VV} (hv : isC v = true) (hl : low σ.length v = true) : Cl id_slices_Values_uint16 [v] σ = some (.fn (.func id_slices_Values_uint16_1) [] [.ptr σ.length 0], ⟨σ ++ [.arr [v] 0 true], [], []⟩) := by
  apply call_slices_Values_uint16
  have hc : cellsV v = [v] := VR.of_cell hv
  have hk : lowP (fun b => decide (b < σ.length)) v = true := hl
  have hk1 : lowP (fun b => decide (b < σ.length + 1)) v = true := lowP_imp (fun b h => by simp at h ⊢; omega) hk
  simp [F_slices_Values_uint16, hc, hv, mkFnV, gcV, oneRef, renVV, ren1V, hk, frz]

/-- Three numbers, put in order. -/
def srt3 (x y z : Int) : List Int := [min (min x y) z, max (min x y) (min (max x y) z), max (max x y) z]
abbrev b3 (x y z : Int) : VObj := .arr [VI .u16 x, VI .u16 y, VI .u16 z] 0 true
section
variable {σ : List VObj} {x y z : Int}
theorem ins_run : ∃ n, Cl id_slices_insertionSortOrdered_uint16 [.rs false σ.length 0 3 1 0, VI .i64 0, VI .i64 3] (σ ++ [b3 x y z]) = some (.tup [], ⟨σ ++ [.arr (us (srt3 x y z)) 0 true], [], List.replicate n σ.length⟩) := by
  have hwr : ∀ wr, wrU (σ.length + 1) σ.length wr = wr ++ [σ.length] := fun wr => wrU_old wr (by omega)
  have htk : ∀ o : VObj, List.take (σ.length + 1) (σ ++ [o]) = σ ++ [o] := fun o => List.take_of_length_le (by simp)
  by_cases h1 : y < x
  · by_cases h2 : z < x
    · by_cases h3 : z < y
      · skip
        refine ⟨6, ?_⟩
        have e : us (srt3 x y z) = [VI .u16 z, VI .u16 y, VI .u16 x] := by simp [us, srt3]; omega
        rw [e]
        apply call_slices_insertionSortOrdered_uint16
        simp [F_slices_insertionSortOrdered_uint16, wrap64]
        repeat' first
          | (refine S_slices_insertionSortOrdered_uint16_1_intro ?_; simp [B_slices_insertionSortOrdered_uint16_1, htk]; done)
          | (refine S_slices_insertionSortOrdered_uint16_1_intro ?_; simp [B_slices_insertionSortOrdered_uint16_1, htk])
          | (refine S_slices_insertionSortOrdered_uint16_4_intro ?_; simp [B_slices_insertionSortOrdered_uint16_4, wrap64, hwr, h1, h2, h3])
        try simp [List.replicate]
      · skip
        refine ⟨4, ?_⟩
        have e : us (srt3 x y z) = [VI .u16 y, VI .u16 z, VI .u16 x] := by simp [us, srt3]; omega
        rw [e]
        apply call_slices_insertionSortOrdered_uint16
        simp [F_slices_insertionSortOrdered_uint16, wrap64]
        repeat' first
          | (refine S_slices_insertionSortOrdered_uint16_1_intro ?_; simp [B_slices_insertionSortOrdered_uint16_1, htk]; done)
          | (refine S_slices_insertionSortOrdered_uint16_1_intro ?_; simp [B_slices_insertionSortOrdered_uint16_1, htk])
          | (refine S_slices_insertionSortOrdered_uint16_4_intro ?_; simp [B_slices_insertionSortOrdered_uint16_4, wrap64, hwr, h1, h2, h3])
        try simp [List.replicate]
    · skip
      refine ⟨2, ?_⟩
      have e : us (srt3 x y z) = [VI .u16 y, VI .u16 x, VI .u16 z] := by simp [us, srt3]; omega
      rw [e]
      apply call_slices_insertionSortOrdered_uint16
      simp [F_slices_insertionSortOrdered_uint16, wrap64]
      repeat' first
        | (refine S_slices_insertionSortOrdered_uint16_1_intro ?_; simp [B_slices_insertionSortOrdered_uint16_1, htk]; done)
        | (refine S_slices_insertionSortOrdered_uint16_1_intro ?_; simp [B_slices_insertionSortOrdered_uint16_1, htk])
        | (refine S_slices_insertionSortOrdered_uint16_4_intro ?_; simp [B_slices_insertionSortOrdered_uint16_4, wrap64, hwr, h1, h2])
      try simp [List.replicate]
  · by_cases h2 : z < y
    · by_cases h3 : z < x
      · skip
        refine ⟨4, ?_⟩
        have e : us (srt3 x y z) = [VI .u16 z, VI .u16 x, VI .u16 y] := by simp [us, srt3]; omega
        rw [e]
        apply call_slices_insertionSortOrdered_uint16
        simp [F_slices_insertionSortOrdered_uint16, wrap64]
        repeat' first
          | (refine S_slices_insertionSortOrdered_uint16_1_intro ?_; simp [B_slices_insertionSortOrdered_uint16_1, htk]; done)
          | (refine S_slices_insertionSortOrdered_uint16_1_intro ?_; simp [B_slices_insertionSortOrdered_uint16_1, htk])
          | (refine S_slices_insertionSortOrdered_uint16_4_intro ?_; simp [B_slices_insertionSortOrdered_uint16_4, wrap64, hwr, h1, h2, h3])
        try simp [List.replicate]
      · skip
        refine ⟨2, ?_⟩
        have e : us (srt3 x y z) = [VI .u16 x, VI .u16 z, VI .u16 y] := by simp [us, srt3]; omega
        rw [e]
        apply call_slices_insertionSortOrdered_uint16
        simp [F_slices_insertionSortOrdered_uint16, wrap64]
        repeat' first
          | (refine S_slices_insertionSortOrdered_uint16_1_intro ?_; simp [B_slices_insertionSortOrdered_uint16_1, htk]; done)
          | (refine S_slices_insertionSortOrdered_uint16_1_intro ?_; simp [B_slices_insertionSortOrdered_uint16_1, htk])
          | (refine S_slices_insertionSortOrdered_uint16_4_intro ?_; simp [B_slices_insertionSortOrdered_uint16_4, wrap64, hwr, h1, h2, h3])
        try simp [List.replicate]
    · skip
      refine ⟨0, ?_⟩
      have e : us (srt3 x y z) = [VI .u16 x, VI .u16 y, VI .u16 z] := by simp [us, srt3]; omega
      rw [e]
      apply call_slices_insertionSortOrdered_uint16
      simp [F_slices_insertionSortOrdered_uint16, wrap64]
      repeat' first
        | (refine S_slices_insertionSortOrdered_uint16_1_intro ?_; simp [B_slices_insertionSortOrdered_uint16_1, htk]; done)
        | (refine S_slices_insertionSortOrdered_uint16_1_intro ?_; simp [B_slices_insertionSortOrdered_uint16_1, htk])
        | (refine S_slices_insertionSortOrdered_uint16_4_intro ?_; simp [B_slices_insertionSortOrdered_uint16_4, wrap64, hwr, h1, h2])
      try simp [List.replicate]

theorem len64_run (σ : List VObj) : Cl id_math_bits_Len [VI .u64 3] σ = some (VI .i64 2, ⟨σ, [], []⟩) := by
  apply call_math_bits_Len
  have : Cl id_math_bits_Len64 [VI .u64 3] σ = some (VI .i64 2, ⟨σ, [], []⟩) := by
    apply call_math_bits_Len64
    simp [F_math_bits_Len64, J_math_bits_Len64_5, J_math_bits_Len64_11]
    unfold J_math_bits_Len64_17
    refine bstepV (x := VI .u8 3) (by kernel_rfl) ?_
    refine bstepV (x := VI .u8 2) (by kernel_rfl) ?_
    simp [wrap64]
  simp [F_math_bits_Len, this]
theorem pdq_run : ∃ n, Cl id_slices_pdqsortOrdered_uint16 [.rs false σ.length 0 3 1 0, VI .i64 0, VI .i64 3, VI .i64 2] (σ ++ [b3 x y z]) = some (.tup [], ⟨σ ++ [.arr (us (srt3 x y z)) 0 true], [], List.replicate n σ.length⟩) := by
  obtain ⟨n, h⟩ := ins_run (σ := σ) (x := x) (y := y) (z := z)
  have htk : ∀ o : VObj, List.take (σ.length + 1) (σ ++ [o]) = σ ++ [o] := fun o => List.take_of_length_le (by simp)
  refine ⟨n, ?_⟩
  apply call_slices_pdqsortOrdered_uint16
  simp [F_slices_pdqsortOrdered_uint16]
  refine S_slices_pdqsortOrdered_uint16_2_intro ?_
  simp [B_slices_pdqsortOrdered_uint16_2, wrap64, h, htk]
theorem sort_run : ∃ n, Cl id_slices_Sort_uint16 [.rs false σ.length 0 3 1 0] (σ ++ [b3 x y z]) = some (.tup [], ⟨σ ++ [.arr (us (srt3 x y z)) 0 true], [], List.replicate n σ.length⟩) := by
  obtain ⟨n, h⟩ := pdq_run (σ := σ) (x := x) (y := y) (z := z)
  have htk : ∀ o : VObj, List.take (σ.length + 1) (σ ++ [o]) = σ ++ [o] := fun o => List.take_of_length_le (by simp)
  refine ⟨n, ?_⟩
  apply call_slices_Sort_uint16
  have w3 : IntKind.u64.wrap 3 = 3 := by decide
  simp [F_slices_Sort_uint16, w3, len64_run, h, htk]
theorem sorted_run {bx : Nat} {f : Nat} (hb : σ[bx]? = some (.arr [.sl f 1 [VI .u16 x, VI .u16 y, VI .u16 z]] 0 true)) : Cl id_slices_Sorted_uint16 [.fn (.func id_slices_Values_uint16_1) [] [.ptr bx 0]] σ = some (.sl 2 1 (us (srt3 x y z)), ⟨σ, [], []⟩) := by
  have h1 : Cl id_slices_AppendSeq_uint16 [nilsV, .fn (.func id_slices_Values_uint16_1) [] [.ptr bx 0]] σ = some (.rs false σ.length 0 3 1 0, ⟨σ ++ [b3 x y z], [], []⟩) := by
    unfold Cl
    refine callV_stand (g := appendXV id_slices_Values_uint16_1) rfl ?_
    simp [appendXV, hb, u16V]
  have h2 : Cl id_slices_Collect_uint16 [.fn (.func id_slices_Values_uint16_1) [] [.ptr bx 0]] σ = some (.rs false σ.length 0 3 1 0, ⟨σ ++ [b3 x y z], [], []⟩) := by
    apply call_slices_Collect_uint16
    simp [F_slices_Collect_uint16, h1, gcV, oneRef, renVV, ren1V]
  obtain ⟨n, h3⟩ := sort_run (σ := σ) (x := x) (y := y) (z := z)
  apply call_slices_Sorted_uint16
  simp [F_slices_Sorted_uint16, h2, h3]
  simp [gcV, frz1, us, srt3, chunk]
end

/-! ### The middle one, most of them, how far apart -/
def half2 (x y : Int) : Int := IntKind.u16.wrap (IntKind.u16.wrap ↑(BitVec.ofInt 16 x &&& BitVec.ofInt 16 y).toNat + (IntKind.u16.wrap ↑(BitVec.ofInt 16 x ^^^ BitVec.ofInt 16 y).toNat).fdiv 2)
def mid3 (x y z : Int) : Int := max (min x y) (min (max x y) z)
def median : List Int → Int × Bool
  | [a] => (a, true)
  | [a, b] => (half2 a b, true)
  | [a, b, c] => (mid3 a b c, true)
  | _ => (0, false)
def res2 (r : Int × Bool) : VV := .tup [VI .u16 r.1, VB r.2]
theorem us_low (q : Nat → Bool) (l : List Int) : lowPL q (us l) = true := by simp [us]
theorem median_run (σ : List VObj) {v : VV} {l : List Int} (hv : IsSl 1 (us l) v) : Cl id_vote_Median [v] σ = some (res2 (median l), ⟨σ, [], []⟩) := by
  apply call_vote_Median
  match l, hv with
  | [], hv => simp [F_vote_Median, hv.len, us, res2, median]
  | [a], hv => simp [F_vote_Median, hv.len, hv.idx, us, res2, median]
  | [a, b], hv => simp [F_vote_Median, hv.len, hv.idx, us, res2, median, half2]; rfl
  | [a, b, c], hv =>
    have h1 := values_run σ hv.isC (hv.low (us_low _ _))
    obtain ⟨f, rfl⟩ : ∃ f, v = .sl f 1 (us [a, b, c]) := by
      cases hv with
      | sl h => exact ⟨_, rfl⟩
      | nil h => simp [us] at h
    have h2 := sorted_run (σ := σ ++ [.arr [.sl f 1 (us [a, b, c])] 0 true]) (x := a) (y := b) (z := c) (bx := σ.length) (f := f) (by simp [us])
    simp [F_vote_Median, hv.len, h1, h2, res2, median]
    simp [us, srt3, mid3]
  | a :: b :: c :: d :: l, hv =>
    have e1 : ((l.length : Int) + 1 + 1 + 1 + 1 == 1) = false := by simp; omega
    have e2 : ((l.length : Int) + 1 + 1 + 1 + 1 == 2) = false := by simp; omega
    have e3 : ((l.length : Int) + 1 + 1 + 1 + 1 == 3) = false := by simp; omega
    simp [F_vote_Median, hv.len, us, res2, median, e1, e2, e3]
/-- Most of them: how many are 0, and 1. -/
def majB : List Int → Int → Int → Option (Int × Int)
  | [], a, b => some (a, b)
  | x :: l, a, b => if 2 ≤ x then none else if x = 0 then majB l (a + 1) b else majB l a (b + 1)
def majority (l : List Int) : Int × Bool := match majB l 0 0 with
  | none => (0, false)
  | some (a, b) => if 3 < (l.length : Int) ∨ a = b then (0, false) else if a < b then (1, true) else (0, true)
theorem majority_run (σ : List VObj) {v : VV} {l : List Int} (hv : IsSl 1 (us l) v) (hu : ∀ x ∈ l, 0 ≤ x) (hlen : l.length < 2 ^ 60) : Cl id_vote_Majority [v] σ = some (res2 (majority l), ⟨σ, [], []⟩) := by
  have loop : ∀ (m i : Nat) (a b : Int), l.length - i = m → 0 ≤ a → a ≤ i → 0 ≤ b → b ≤ i → majB (l.drop i) a b = majB l 0 0 →
      S_vote_Majority_3 Cl iterLV σ [(0, v), (4, .ptr σ.length 0), (7, v), (8, VI .i64 l.length), (9, VI .i64 i)] ⟨σ ++ [.arr [VI .i64 a, VI .i64 b] 0 true], [], []⟩ = some (res2 (majority l), ⟨σ, [], []⟩) := by
    intro m
    induction m with
    | zero =>
      intro i a b hm ha hai hb hbi hj
      rw [List.drop_eq_nil_of_le (by omega)] at hj
      have hmj : majority l = if 3 < (l.length : Int) ∨ a = b then (0, false) else if a < b then (1, true) else (0, true) := by
        unfold majority; rw [← hj]; rfl
      refine S_vote_Majority_3_intro ?_
      simp [B_vote_Majority_3, show ¬i < l.length by omega, hv.len, us, ifVV_bool]
      rw [hmj]
      simp only [res2]
      split
      · rfl
      · split <;> rfl
    | succ m ih =>
      intro i a b hm ha hai hb hbi hj
      have hi : i < l.length := by omega
      obtain ⟨x, hx⟩ : ∃ x, l[i]'hi = x := ⟨_, rfl⟩
      have hd : l.drop i = x :: l.drop (i + 1) := by rw [List.drop_eq_getElem_cons hi, hx]
      have h0 : 0 ≤ x := hx ▸ hu _ (List.getElem_mem hi)
      rw [hd, majB] at hj
      refine S_vote_Majority_3_intro ?_
      by_cases h2 : 2 ≤ x
      · rw [if_pos h2] at hj
        have hmj : majority l = (0, false) := by unfold majority; rw [← hj]
        simp [B_vote_Majority_3, hi, hv.idx, us, hx, h2, hmj, res2]
      · rw [if_neg h2] at hj
        by_cases h1 : x = 0
        · subst h1
          rw [if_pos rfl] at hj
          have := ih (i + 1) (a + 1) b (by omega) (by omega) (by omega) hb (by omega) hj
          simp [B_vote_Majority_3, hi, hv.idx, us, hx, wrap_succ (show i < 2 ^ 62 by omega), wrap64 (show -9223372036854775808 ≤ a + 1 by omega) (show a + 1 < 9223372036854775808 by omega)]
          simpa using this
        · have h1' : x = 1 := by omega
          subst h1'
          rw [if_neg h1] at hj
          have := ih (i + 1) a (b + 1) (by omega) ha (by omega) (by omega) (by omega) hj
          simp [B_vote_Majority_3, hi, hv.idx, us, hx, wrap_succ (show i < 2 ^ 62 by omega), wrap64 (show -9223372036854775808 ≤ b + 1 by omega) (show b + 1 < 9223372036854775808 by omega)]
          simpa using this
  apply call_vote_Majority
  have := loop l.length 0 0 0 (by omega) (by omega) (by omega) (by omega) (by omega) (by simp)
  simpa [F_vote_Majority, hv.len, us] using this
def voter (p : Pt) (l : List Int) : Int × Bool := if p.k = 0 ∨ p.k = 1 then median l else majority l
/-- What is voted. -/
def voteP (p : Pt) (l : List Int) : Int × Bool := if (voter p l).2 then ((voter p l).1, true) else (IntKind.u16.wrap p.s, false)
theorem of_run (σ : List VObj) (k : Int) : Cl id_vote_of [VI .i64 k] σ = some (.agg [.fn (.func (if k = 0 ∨ k = 1 then id_vote_Median else id_vote_Majority)) [] []], ⟨σ, [], []⟩) := by
  apply call_vote_of
  by_cases h : k = 0 ∨ k = 1
  · have : (k == 0 || k == 1) = true := by simpa using h
    simp [F_vote_of, this, h, Go.Vm.bldV, fillV, setV, ifVV_bool]
  · have : (k == 0 || k == 1) = false := by simpa using h
    simp [F_vote_of, this, h, Go.Vm.bldV, fillV, setV, ifVV_bool]
theorem vote_run (σ : List VObj) (p : Pt) {v : VV} {l : List Int} (hv : IsSl 1 (us l) v) (hu : ∀ x ∈ l, 0 ≤ x) (hlen : l.length < 2 ^ 60) : Cl id_vote_Vote [p.v, v] σ = some (res2 (voteP p l), ⟨σ, [], []⟩) := by
  apply call_vote_Vote
  have h1 := median_run (σ ++ [.arr [VI .i64 p.k, VI .i64 p.a, VI .i64 p.t, VI .i64 p.b, VI .i64 p.s] 0 true]) hv
  have h2 := majority_run (σ ++ [.arr [VI .i64 p.k, VI .i64 p.a, VI .i64 p.t, VI .i64 p.b, VI .i64 p.s] 0 true]) hv hu hlen
  by_cases h : p.k = 0 ∨ p.k = 1
  · have hw : voter p l = median l := if_pos h
    cases hm : (median l).2 <;> simp [F_vote_Vote, Pt.v, of_run, h, h1, res2, voteP, hw, hm]
  · have hw : voter p l = majority l := if_neg h
    cases hm : (majority l).2 <;> simp [F_vote_Vote, Pt.v, of_run, h, h2, res2, voteP, hw, hm]
theorem apart_run (σ : List VObj) (p : Pt) {x y : Int} (hx : 0 ≤ x ∧ x < 65536) (hy : 0 ≤ y ∧ y < 65536) : Cl id_vote_Apart [p.v, VI .u16 x, VI .u16 y] σ = some (VB (decide (p.b < max x y - min x y)), ⟨σ, [], []⟩) := by
  apply call_vote_Apart
  have e1 : (if x < y then y else x) - (if y < x then y else x) = max x y - min x y := by split <;> split <;> omega
  simp [F_vote_Apart, Pt.v, e1]
  rw [wrap16 (by omega) (by omega), wrap64 (by omega) (by omega)]
end Go.Proofs.Ytkpamaplmjlagaa.Hoas
