/- Plain facts on residues. -/
set_option linter.unusedVariables false
set_option linter.unusedSimpArgs false
namespace Go.Proofs.Ytdlpemmoobbgnaa.md

theorem mul_l (a b p : Int) : (a % p * b) % p = (a * b) % p := by rw [Int.mul_emod, Int.emod_emod_of_dvd a (Int.dvd_refl p), ← Int.mul_emod]
theorem mul_r (a b p : Int) : (a * (b % p)) % p = (a * b) % p := by rw [Int.mul_emod, Int.emod_emod_of_dvd b (Int.dvd_refl p), ← Int.mul_emod]
theorem pow_m (x p : Int) : ∀ k : Nat, (x % p) ^ k % p = x ^ k % p
  | 0 => by rw [Int.pow_zero, Int.pow_zero]
  | k + 1 => by rw [Int.pow_succ, Int.pow_succ, Int.mul_emod, pow_m x p k, Int.emod_emod_of_dvd x (Int.dvd_refl p), ← Int.mul_emod]

theorem odd_step (a c p : Int) (m : Nat) (h : m % 2 = 1) : (a * c % p * (c * c % p) ^ (m / 2)) % p = (a * c ^ m) % p := by
  have e : a * c ^ m = a * c * (c * c) ^ (m / 2) := by
    have : m = 2 * (m / 2) + 1 := by omega
    conv => lhs; rw [this, Int.pow_succ, Int.pow_mul, Int.pow_succ, Int.pow_succ, Int.pow_zero, Int.one_mul]
    rw [Int.mul_comm _ c, ← Int.mul_assoc]
  rw [e, mul_l, ← mul_r, pow_m, mul_r]

theorem even_step (a c p : Int) (m : Nat) (h : m % 2 = 0) : (a * (c * c % p) ^ (m / 2)) % p = (a * c ^ m) % p := by
  have e : c ^ m = (c * c) ^ (m / 2) := by
    have : m = 2 * (m / 2) := by omega
    conv => lhs; rw [this, Int.pow_mul, Int.pow_succ, Int.pow_succ, Int.pow_zero, Int.one_mul]
  rw [e, ← mul_r, pow_m, mul_r]

theorem prod_bd (a b p : Int) (a0 : 0 ≤ a) (a1 : a < p) (b0 : 0 ≤ b) (b1 : b < p) (hp : p < 2147483648) : 0 ≤ a * b ∧ a * b ≤ 4611686014132420609 := by
  refine ⟨Int.mul_nonneg a0 b0, ?_⟩
  have := Int.mul_le_mul (show a ≤ 2147483647 by omega) (show b ≤ 2147483647 by omega) b0 (by omega)
  omega

theorem mod_bd (a p : Int) (hp : 1 ≤ p) : 0 ≤ a % p ∧ a % p < p := ⟨Int.emod_nonneg _ (by omega), Int.emod_lt_of_pos _ (by omega)⟩

end Go.Proofs.Ytdlpemmoobbgnaa.md
