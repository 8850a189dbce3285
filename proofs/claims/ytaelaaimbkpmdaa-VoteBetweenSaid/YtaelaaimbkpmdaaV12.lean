/-
  What the functions of layer 12 compute, in the abstract machine.
-/
import Derived.Test.YtaelaaimbkpmdaaH12
import Derived.Test.YtaelaaimbkpmdaaV12s
namespace Go.Proofs.Ytaelaaimbkpmdaa.Hoas
open Go Go.Ab

theorem awake_run (o : AObj) : Cl 6 [] [o] = some (.bool true, ⟨[o], []⟩) := call_fuel 40 (by kernel_rfl)

def half2 (x y : Int) : Int := IntKind.u16.wrap (IntKind.u16.wrap ↑(BitVec.ofInt 16 x &&& BitVec.ofInt 16 y).toNat + (IntKind.u16.wrap ↑(BitVec.ofInt 16 x ^^^ BitVec.ofInt 16 y).toNat).fdiv 2)

theorem median2 {σ : List AObj} {b : Nat} {x y : Int} (hrow : row ⟨σ, []⟩ b = some [.int .u16 x, .int .u16 y]) : Cl 8 [sl b 0 2 1 1] σ = some (.tuple #[.int .u16 (half2 x y), .bool true], ⟨σ, []⟩) := by
  apply F8_call
  simp [F8, hrow, binq_shr, IntKind.bits]
  rfl

theorem values_run {σ : List AObj} {b n f : Nat} : Cl 18 [sl b 0 n 1 f] σ = some (.func (.func 24) #[] #[ptr σ.length 0], ⟨σ ++ [.arr [sl b 0 n 1 f] 0 true], []⟩) := by
  apply F18_call
  simp [F18, mkFn, gc, refs, refs2, refs1, refs0, ptr, noFn, dedup, simple0]

theorem median3 {σ : List AObj} {b : Nat} {x y z : Int} (hrow : row ⟨σ, []⟩ b = some [.int .u16 x, .int .u16 y, .int .u16 z]) : Cl 8 [sl b 0 3 1 1] σ = some (.tuple #[.int .u16 (mid3 x y z), .bool true], ⟨σ, []⟩) := by
  have h := sorted_run (σ ++ [.arr [sl b 0 3 1 1] 0 true]) (b := b) (bx := σ.length) (f := 1) (x := x) (y := y) (z := z) (by simp) (by decide) (row_old hrow)
  simp only [List.length_append, List.length_cons, List.length_nil, R3, List.append_assoc, List.cons_append, List.nil_append] at h
  apply F8_call
  simp [F8, hrow, values_run, h]

theorem maj3 {σ : List AObj} {b : Nat} {x y z : Int} (hx : x = 0 ∨ x = 1) (hy : y = 0 ∨ y = 1) (hz : z = 0 ∨ z = 1) (hrow : row ⟨σ, []⟩ b = some [.int .u16 x, .int .u16 y, .int .u16 z]) : Cl 10 [sl b 0 3 1 1] σ = some (.tuple #[.int .u16 (mid3 x y z), .bool true], ⟨σ, []⟩) := by
  apply F10_call
  simp [F10]
  have h4 : (IntKind.i64.wrap 1) = 1 := by decide
  have h5 : (IntKind.i64.wrap 2) = 2 := by decide
  have h6 : (IntKind.i64.wrap 3) = 3 := by decide
  rcases hx with rfl | rfl <;> rcases hy with rfl | rfl <;> rcases hz with rfl | rfl
  all_goals
    apply S10_3_intro
    simp [B10_3, row_old hrow, h4, h5, h6]
    apply S10_3_intro
    simp [B10_3, row_old hrow, h4, h5, h6]
    apply S10_3_intro
    simp [B10_3, row_old hrow, h4, h5, h6]
    apply S10_3_intro
    simp [B10_3, row_old hrow, h4, h5, h6, mid3]
    try decide

theorem wrap16 {n : Int} (h0 : 0 ≤ n) (h1 : n < 65536) : IntKind.u16.wrap n = n := by
  unfold IntKind.wrap
  simp [IntKind.bits, IntKind.signed]
  omega
theorem and_xor : ∀ (n a b : Nat), a < 2 ^ n → (a ^^^ b) + 2 * (a &&& b) = a + b := by
  intro n
  induction n with
  | zero => intro a b h; have : a = 0 := by simpa using h
            subst this; simp
  | succ n ih =>
    intro a b h
    have h1 := ih (a / 2) (b / 2) (by omega)
    have hd : ∀ m : Nat, m / 2 = m >>> 1 := fun m => by rw [Nat.shiftRight_eq_div_pow]
    have e1 : (a ^^^ b) / 2 = a / 2 ^^^ b / 2 := by rw [hd, hd, hd, Nat.shiftRight_xor_distrib]
    have e2 : (a &&& b) / 2 = a / 2 &&& b / 2 := by rw [hd, hd, hd, Nat.shiftRight_and_distrib]
    have e3 : (a ^^^ b) % 2 = (a % 2 + b % 2) % 2 := by
      have := @Nat.xor_mod_two_pow a b 1
      simp at this
      rw [this]
      rcases Nat.mod_two_eq_zero_or_one a with h | h <;> rcases Nat.mod_two_eq_zero_or_one b with h' | h' <;> simp [h, h']
    have e4 : (a &&& b) % 2 = (a % 2) * (b % 2) := by
      have := @Nat.and_mod_two_pow a b 1
      simp at this
      rw [this]
      rcases Nat.mod_two_eq_zero_or_one a with h | h <;> rcases Nat.mod_two_eq_zero_or_one b with h' | h' <;> simp [h, h']
    rw [← e1, ← e2] at h1
    rcases Nat.mod_two_eq_zero_or_one a with h | h <;> rcases Nat.mod_two_eq_zero_or_one b with h' | h' <;> rw [h, h'] at e3 e4 <;> omega
theorem half2_eq {x y : Int} (hx : 0 ≤ x ∧ x < 65536) (hy : 0 ≤ y ∧ y < 65536) : half2 x y = (x + y) / 2 := by
  obtain ⟨a, rfl⟩ := Int.eq_ofNat_of_zero_le hx.1
  obtain ⟨b, rfl⟩ := Int.eq_ofNat_of_zero_le hy.1
  unfold half2
  have ea : (BitVec.ofInt 16 (a : Int)).toNat = a := by simp; omega
  have eb : (BitVec.ofInt 16 (b : Int)).toNat = b := by simp; omega
  rw [BitVec.toNat_and, BitVec.toNat_xor, ea, eb]
  have h := and_xor 16 a b (by omega)
  have l1 : (a &&& b) ≤ a := Nat.and_le_left
  have l2 : (a &&& b) ≤ b := Nat.and_le_right
  rw [wrap16 (n := ((a ^^^ b : Nat) : Int)) (by omega) (by have : a ^^^ b < 2 ^ 16 := Nat.xor_lt_two_pow (by omega) (by omega)
                                                           omega), wrap16 (n := ((a &&& b : Nat) : Int)) (by omega) (by omega)]
  have : ((a ^^^ b : Nat) : Int).fdiv 2 = ((a ^^^ b : Nat) : Int) / 2 := Int.fdiv_eq_ediv_of_nonneg _ (by omega)
  rw [this, wrap16 (by omega) (by have : a ^^^ b < 2 ^ 16 := Nat.xor_lt_two_pow (by omega) (by omega)
                                  omega)]
  omega

end Go.Proofs.Ytaelaaimbkpmdaa.Hoas
