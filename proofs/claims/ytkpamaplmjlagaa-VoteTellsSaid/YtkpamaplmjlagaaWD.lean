/-
  VoteTells, in the machine of values.
-/
import Derived.Test.YtkpamaplmjlagaaWC
namespace Go.Proofs.Ytkpamaplmjlagaa.Hoas
open Go Go.Vm
attribute [local congr] bind_congr1 ifVV_congr1
attribute [local irreducible] Cl

/-! ### The document's answers -/
def cntB : Nat → List Int → Int → Option Int
  | 0, _, n => some n
  | _ + 1, [], n => some n
  | k + 1, x :: l, n => if 2 ≤ x then none else cntB k l (n + x)
def rmaj (l : List Int) : Int × Bool := match cntB 4 l 0 with
  | none => (0, false)
  | some n => if (l.length : Int) < 1 ∨ 3 < (l.length : Int) ∨ 2 * n = l.length then (0, false) else if (l.length : Int) < 2 * n then (1, true) else (0, true)
theorem majB_none_or : ∀ (l : List Int) (a b : Int), (∃ x, majB l a b = some x) ∨ majB l a b = none := fun l a b => by cases majB l a b <;> simp
theorem rmaj_eq {l : List Int} (hu : ∀ x ∈ l, 0 ≤ x) : rmaj l = majority l := by
  match l, hu with
  | [], _ => simp [rmaj, cntB, majority, majB]
  | [a], hu =>
    have ha : 0 ≤ a := hu a (by simp)
    by_cases h : 2 ≤ a
    · simp [rmaj, cntB, majority, majB, h]
    · rcases (by omega : a = 0 ∨ a = 1) with rfl | rfl <;> simp [rmaj, cntB, majority, majB]
  | [a, b], hu =>
    have ha : 0 ≤ a := hu a (by simp)
    have hb : 0 ≤ b := hu b (by simp)
    rcases (by omega : a = 0 ∨ a = 1 ∨ 2 ≤ a) with rfl | rfl | h1 <;> rcases (by omega : b = 0 ∨ b = 1 ∨ 2 ≤ b) with rfl | rfl | h2 <;> simp [rmaj, cntB, majority, majB, *]
  | [a, b, c], hu =>
    have ha : 0 ≤ a := hu a (by simp)
    have hb : 0 ≤ b := hu b (by simp)
    have hc : 0 ≤ c := hu c (by simp)
    rcases (by omega : a = 0 ∨ a = 1 ∨ 2 ≤ a) with rfl | rfl | h1 <;> rcases (by omega : b = 0 ∨ b = 1 ∨ 2 ≤ b) with rfl | rfl | h2 <;> rcases (by omega : c = 0 ∨ c = 1 ∨ 2 ≤ c) with rfl | rfl | h3 <;> simp [rmaj, cntB, majority, majB, *]
  | a :: b :: c :: d :: l, hu =>
    have e1 : majority (a :: b :: c :: d :: l) = (0, false) := by
      unfold majority
      split
      · rfl
      · rw [if_pos (.inl (by simp; omega))]
    rw [e1]
    unfold rmaj
    split
    · rfl
    · rw [if_pos (.inr (.inl (by simp; omega)))]
theorem rmajority_run (σ : List VObj) {v : VV} {l : List Int} (hv : IsSl 1 (us l) v) (hu : ∀ x ∈ l, 0 ≤ x) (hlen : l.length < 2 ^ 60) : Cl id_triuneref12_Majority [v] σ = some (res2 (majority l), ⟨σ, [], []⟩) := by
  rw [← rmaj_eq hu]
  have fin : ∀ (i : Nat) (n : Int), 0 ≤ n → n ≤ i → i ≤ 4 → ¬(i < l.length ∧ i < 4) → cntB 4 l 0 = some n → 
      S_triuneref12_Majority_3 Cl iterLV σ [(0, v), (4, VI .i64 n), (5, VI .i64 i)] ⟨σ, [], []⟩ = some (res2 (rmaj l), ⟨σ, [], []⟩) := by
    intro i n h0 hn hi4 hend hc
    have hr : rmaj l = if (l.length : Int) < 1 ∨ 3 < (l.length : Int) ∨ 2 * n = l.length then (0, false) else if (l.length : Int) < 2 * n then (1, true) else (0, true) := by
      unfold rmaj; rw [hc]
    rw [hr]
    refine S_triuneref12_Majority_3_intro ?_
    have hw : IntKind.i64.wrap (2 * n) = 2 * n := wrap64 (by omega) (by omega)
    by_cases h1 : l.length = 0
    · simp [B_triuneref12_Majority_3, h1, hv.len, us, res2, show ¬(i : Int) < 0 by omega]
    · by_cases h3 : 3 < l.length
      · have hne : ¬((l.length : Int) < 1) := by omega
        have h3' : (3 : Int) < l.length := by omega
        by_cases hi : i < l.length
        · simp [B_triuneref12_Majority_3, hi, show ¬(i : Int) < 4 by omega, h1, h3, hne, h3', hv.len, us, res2]
        · simp [B_triuneref12_Majority_3, hi, h1, h3, hne, h3', hv.len, us, res2]
      · have hi : ¬i < l.length := by omega
        have hne : ¬((l.length : Int) < 1) := by omega
        have h3' : ¬(3 : Int) < l.length := by omega
        simp [B_triuneref12_Majority_3, hi, h1, h3, hne, h3', hv.len, us, res2, hw, ifVV_bool]
        by_cases q1 : 2 * n = l.length <;> by_cases q2 : (l.length : Int) < 2 * n <;> simp [q1, q2]
  have loop : ∀ (m i : Nat) (n : Int), 4 - i = m → i ≤ 4 → 0 ≤ n → n ≤ i → cntB (4 - i) (l.drop i) n = cntB 4 l 0 →
      S_triuneref12_Majority_3 Cl iterLV σ [(0, v), (4, VI .i64 n), (5, VI .i64 i)] ⟨σ, [], []⟩ = some (res2 (rmaj l), ⟨σ, [], []⟩) := by
    intro m
    induction m with
    | zero =>
      intro i n hm hi h0 hn hc
      obtain rfl : i = 4 := by omega
      exact fin 4 n h0 hn (by omega) (by omega) (by rw [← hc]; simp [cntB])
    | succ m ih =>
      intro i n hm hi4 h0 hn hc
      by_cases hi : i < l.length
      · obtain ⟨x, hx⟩ : ∃ x, l[i]'hi = x := ⟨_, rfl⟩
        have hd : l.drop i = x :: l.drop (i + 1) := by rw [List.drop_eq_getElem_cons hi, hx]
        have hx0 : 0 ≤ x := hx ▸ hu _ (List.getElem_mem hi)
        rw [hd, show 4 - i = (4 - (i + 1)) + 1 by omega, cntB] at hc
        refine S_triuneref12_Majority_3_intro ?_
        by_cases h2 : 1 < x
        · rw [if_pos (by omega)] at hc
          have hr : rmaj l = (0, false) := by unfold rmaj; rw [← hc]
          simp [B_triuneref12_Majority_3, hi, hv.len, hv.idx, us, hx, h2, hr, res2, show (i : Int) < 4 by omega]
        · rw [if_neg (by omega)] at hc
          have := ih (i + 1) (n + x) (by omega) (by omega) (by omega) (by omega) hc
          simp [B_triuneref12_Majority_3, hi, hv.len, hv.idx, us, hx, h2, show (i : Int) < 4 by omega, wrap_succ (show i < 2 ^ 62 by omega), wrap64 (show -9223372036854775808 ≤ x by omega) (show x < 9223372036854775808 by omega), wrap64 (show -9223372036854775808 ≤ n + x by omega) (show n + x < 9223372036854775808 by omega)]
          simpa using this
      · rw [List.drop_eq_nil_of_le (by omega), show 4 - i = (4 - (i + 1)) + 1 by omega, cntB] at hc
        exact fin i n h0 hn hi4 (by omega) hc.symm
  apply call_triuneref12_Majority
  have := loop 4 0 0 (by omega) (by omega) (by omega) (by omega) (by simp)
  simpa [F_triuneref12_Majority] using this

theorem rapart_run (σ : List VObj) (p : Pt) {x y : Int} (hx : 0 ≤ x ∧ x < 65536) (hy : 0 ≤ y ∧ y < 65536) : Cl id_triuneref12_Apart [p.v, VI .u16 x, VI .u16 y] σ = some (VB (decide (p.b < max x y - min x y)), ⟨σ, [], []⟩) := by
  apply call_triuneref12_Apart
  have w1 : IntKind.i64.wrap x = x := wrap64 (by omega) (by omega)
  have w2 : IntKind.i64.wrap y = y := wrap64 (by omega) (by omega)
  have w3 : IntKind.i64.wrap (x - y) = x - y := wrap64 (by omega) (by omega)
  have w4 : IntKind.i64.wrap (-(x - y)) = -(x - y) := wrap64 (by omega) (by omega)
  by_cases h : x - y < 0
  · have e : max x y - min x y = -(x - y) := by omega
    have hneg : pUnV Try.prog .neg (VI .i64 (x - y)) = some (VI .i64 (IntKind.i64.wrap (0 - (x - y)))) := by
      show (Go.Ab.pUn Try.prog .neg (.int .i64 (x - y))).map ofV = _
      unfold Go.Ab.pUn; rw [if_pos (show Go.Ab.plain (.int .i64 (x - y)) = true from rfl)]; rfl
    rw [Int.zero_sub] at hneg
    simp [F_triuneref12_Apart, J_triuneref12_Apart_8, Pt.v, w1, w2, w3, h, e, hneg, w4]
  · have e : max x y - min x y = x - y := by omega
    simp [F_triuneref12_Apart, J_triuneref12_Apart_8, Pt.v, w1, w2, w3, h, e]
theorem and_xor : ∀ (n a b : Nat), a < 2 ^ n → (a ^^^ b) + 2 * (a &&& b) = a + b := by
  intro n
  induction n with
  | zero => intro a b h; have : a = 0 := by simpa using h
            subst this; simp
  | succ n ih =>
    intro a b h
    have h1 := ih (a / 2) (b / 2) (by omega)
    have hd : ∀ m : Nat, m / 2 = m >>> 1 := fun m => by rw [Nat.shiftRight_eq_div_pow]
    have e1 : (a ^^^ b) / 2 = a / 2 ^^^ b / 2 := by rw [hd, hd, hd, Nat.shiftRight_xor_distrib]
    have e2 : (a &&& b) / 2 = a / 2 &&& b / 2 := by rw [hd, hd, hd, Nat.shiftRight_and_distrib]
    have e3 : (a ^^^ b) % 2 = (a % 2 + b % 2) % 2 := by
      have := @Nat.xor_mod_two_pow a b 1
      simp at this
      rw [this]
      rcases Nat.mod_two_eq_zero_or_one a with h | h <;> rcases Nat.mod_two_eq_zero_or_one b with h' | h' <;> simp [h, h']
    have e4 : (a &&& b) % 2 = (a % 2) * (b % 2) := by
      have := @Nat.and_mod_two_pow a b 1
      simp at this
      rw [this]
      rcases Nat.mod_two_eq_zero_or_one a with h | h <;> rcases Nat.mod_two_eq_zero_or_one b with h' | h' <;> simp [h, h']
    rw [← e1, ← e2] at h1
    rcases Nat.mod_two_eq_zero_or_one a with h | h <;> rcases Nat.mod_two_eq_zero_or_one b with h' | h' <;> rw [h, h'] at e3 e4 <;> omega
theorem half2_eq {x y : Int} (hx : 0 ≤ x ∧ x < 65536) (hy : 0 ≤ y ∧ y < 65536) : half2 x y = (x + y) / 2 := by
  obtain ⟨a, rfl⟩ := Int.eq_ofNat_of_zero_le hx.1
  obtain ⟨b, rfl⟩ := Int.eq_ofNat_of_zero_le hy.1
  unfold half2
  have ea : (BitVec.ofInt 16 (a : Int)).toNat = a := by simp; omega
  have eb : (BitVec.ofInt 16 (b : Int)).toNat = b := by simp; omega
  rw [BitVec.toNat_and, BitVec.toNat_xor, ea, eb]
  have h := and_xor 16 a b (by omega)
  have l1 : (a &&& b) ≤ a := Nat.and_le_left
  have l2 : (a &&& b) ≤ b := Nat.and_le_right
  rw [wrap16 (n := ((a ^^^ b : Nat) : Int)) (by omega) (by have : a ^^^ b < 2 ^ 16 := Nat.xor_lt_two_pow (by omega) (by omega)
                                                           omega), wrap16 (n := ((a &&& b : Nat) : Int)) (by omega) (by omega)]
  have : ((a ^^^ b : Nat) : Int).fdiv 2 = ((a ^^^ b : Nat) : Int) / 2 := Int.fdiv_eq_ediv_of_nonneg _ (by omega)
  rw [this, wrap16 (by omega) (by have : a ^^^ b < 2 ^ 16 := Nat.xor_lt_two_pow (by omega) (by omega)
                                  omega)]
  omega
theorem half2_quo {x y : Int} (hx : 0 ≤ x ∧ x < 65536) (hy : 0 ≤ y ∧ y < 65536) : IntKind.u16.wrap ((x + y).tdiv 2) = half2 x y := by
  rw [half2_eq hx hy, Int.tdiv_eq_ediv_of_nonneg (by omega), wrap16 (by omega) (by omega)]
theorem rmedian_run (σ : List VObj) {v : VV} {l : List Int} (hv : IsSl 1 (us l) v) (hu : ∀ x ∈ l, 0 ≤ x ∧ x < 65536) : Cl id_triuneref12_Median [v] σ = some (res2 (median l), ⟨σ, [], []⟩) := by
  apply call_triuneref12_Median
  match l, hv, hu with
  | [], hv, _ => simp [F_triuneref12_Median, hv.len, us, res2, median]
  | [a], hv, _ => simp [F_triuneref12_Median, hv.len, hv.idx, us, res2, median]
  | [a, b], hv, hu =>
    have ha := hu a (by simp)
    have hb := hu b (by simp)
    have w1 : IntKind.i64.wrap a = a := wrap64 (by omega) (by omega)
    have w2 : IntKind.i64.wrap b = b := wrap64 (by omega) (by omega)
    have w3 : IntKind.i64.wrap (a + b) = a + b := wrap64 (by omega) (by omega)
    have hd : (a + b).tdiv 2 = (a + b) / 2 := Int.tdiv_eq_ediv_of_nonneg (by omega)
    have w4 : IntKind.i64.wrap ((a + b).tdiv 2) = (a + b).tdiv 2 := wrap64 (by omega) (by omega)
    simp [F_triuneref12_Median, hv.len, hv.idx, us, res2, median, w1, w2, w3, w4, half2_quo ha hb]
  | [a, b, c], hv, _ =>
    have hl := hv.len
    have hx := hv.idx
    simp only [us, List.map_cons, List.map_nil, List.length_cons, List.length_nil] at hl hx
    simp [F_triuneref12_Median, hl, hx, us, res2, median]
    by_cases h1 : a < b <;> by_cases h2 : b < a <;> by_cases h3 : a < c <;> by_cases h4 : c < a <;> by_cases h5 : b < c <;> by_cases h6 : c < b <;> first
      | (exfalso; omega)
      | skip
    all_goals
      repeat' first
        | (with_reducible refine S_triuneref12_Median_8_intro ?_; simp [B_triuneref12_Median_8]; done)
        | (with_reducible refine S_triuneref12_Median_8_intro ?_; simp [B_triuneref12_Median_8])
        | (with_reducible refine S_triuneref12_Median_13_intro ?_; simp [B_triuneref12_Median_13, J_triuneref12_Median_27, J_triuneref12_Median_35, hx, wrap64, h1, h2, h3, h4, h5, h6]; done)
        | (with_reducible refine S_triuneref12_Median_13_intro ?_; simp [B_triuneref12_Median_13, J_triuneref12_Median_27, J_triuneref12_Median_35, hx, wrap64, h1, h2, h3, h4, h5, h6])
    all_goals (unfold mid3; omega)
  | a :: b :: c :: d :: l, hv, _ =>
    have e1 : ((l.length : Int) + 1 + 1 + 1 + 1 == 1) = false := by simp; omega
    have e2 : ((l.length : Int) + 1 + 1 + 1 + 1 == 2) = false := by simp; omega
    have e3 : ((l.length : Int) + 1 + 1 + 1 + 1 == 3) = false := by simp; omega
    have e4 : ((l.length : Int) + 1 + 1 + 1 + 1 != 3) = true := by simp; omega
    simp [F_triuneref12_Median, hv.len, us, res2, median, e1, e2, e3, e4]
end Go.Proofs.Ytkpamaplmjlagaa.Hoas
