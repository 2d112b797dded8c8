/- Small facts on words: masks, joined halves, shifts, the number of binary digits. -/
import Derived.WalkKit
import Derived.Lib.BitFns
set_option linter.unusedVariables false
set_option linter.unusedSimpArgs false
namespace Go.Proofs.Ytdlpemmoobbgnaa.num

theorem and_mask (a : Int) (k : Nat) (h0 : 0 ≤ a) (h1 : a < 18446744073709551616) (hk : k < 64) : bits .and .u64 a ((2 ^ k - 1 : Nat) : Int) = a % ((2 ^ k : Nat) : Int) := by
  have hp : 2 ^ k - 1 < 18446744073709551616 := by
    have : 2 ^ k < 2 ^ 64 := Nat.pow_lt_pow_right (by omega) hk
    omega
  obtain ⟨A, rfl⟩ := Int.eq_ofNat_of_zero_le h0
  rw [u64_and_nat A _ (by omega) hp, Nat.and_two_pow_sub_one_eq_mod]
  rfl

theorem and32 (a : Int) (h0 : 0 ≤ a) (h1 : a < 18446744073709551616) : bits .and .u64 a 4294967295 = a % 4294967296 := and_mask a 32 h0 h1 (by omega)

/-- a multiple of 2^s and a number below 2^s lie apart -/
theorem or_apart (a b : Nat) (s : Nat) (hb : b < 2 ^ s) (h1 : a * 2 ^ s + b < 18446744073709551616) : bits .or .u64 ((a * 2 ^ s : Nat) : Int) (b : Int) = ((a * 2 ^ s + b : Nat) : Int) := by
  rw [u64_or_nat _ _ (by omega) (by omega), Nat.mul_comm a, Nat.two_pow_add_eq_or_of_lt hb]

theorem bitLen_bounds : ∀ (k x : Nat), 0 < x → x < 2 ^ k → k ≤ 64 → 1 ≤ Lib.bitLen x ∧ x < 2 ^ Lib.bitLen x ∧ 2 ^ Lib.bitLen x ≤ 2 * x := by
  intro k
  induction k with
  | zero => intro x h0 h; simp at h; omega
  | succ k ih =>
    intro x h0 h hk
    have h64 : x < 2 ^ 64 := Nat.lt_of_lt_of_le h (Nat.pow_le_pow_right (by omega) hk)
    rw [Lib.bitLen_half x (by omega) h64]
    by_cases h1 : x / 2 = 0
    · obtain rfl : x = 1 := by omega
      decide
    · have h2 : x / 2 < 2 ^ k := by rw [Nat.pow_succ] at h; omega
      obtain ⟨a, b, c⟩ := ih (x / 2) (by omega) h2 (by omega)
      refine ⟨by omega, ?_, ?_⟩ <;> rw [Nat.add_comm, Nat.pow_succ] <;> omega

end Go.Proofs.Ytdlpemmoobbgnaa.num
