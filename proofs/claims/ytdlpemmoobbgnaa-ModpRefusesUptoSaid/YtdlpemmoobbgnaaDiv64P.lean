/- Plain facts for a division of two words by one (Knuth's estimate of a digit to the base 2^32). -/
set_option linter.unusedVariables false
set_option linter.unusedSimpArgs false
namespace Go.Proofs.Ytdlpemmoobbgnaa.dv

/-- the digit is met: the test says no -/
theorem stop (q r v1 v0 u u1 Y Q : Int) (hY : Y = v1 * 4294967296 + v0) (hr : q * v1 + r = u) (hQ : Q ≤ q) (hlt : u * 4294967296 + u1 < (Q + 1) * Y) (hpos : 0 < Y)
    (ht : q * v0 ≤ 4294967296 * r + u1) : q = Q := by
  have e : q * Y ≤ u * 4294967296 + u1 := by
    rw [hY, Int.mul_add, ← Int.mul_assoc, ← hr, Int.add_mul]
    omega
  have : q < Q + 1 := Int.lt_of_mul_lt_mul_right (Int.lt_of_le_of_lt e hlt) (by omega)
  omega

/-- the digit is met: the rest has passed the base -/
theorem stop' (q r v1 v0 u u1 Y Q : Int) (hY : Y = v1 * 4294967296 + v0) (hr : q * v1 + r = u) (hQ : Q ≤ q) (hlt : u * 4294967296 + u1 < (Q + 1) * Y) (hpos : 0 < Y)
    (h0 : 0 ≤ q) (hv0 : 0 ≤ v0) (hv0' : v0 < 4294967296) (hv1 : 1 ≤ v1) (huY : u < Y) (hu1 : 0 ≤ u1) (hbig : 4294967296 ≤ r) : q = Q := by
  refine stop q r v1 v0 u u1 Y Q hY hr hQ hlt hpos ?_
  have hq : q < 4294967296 := by
    refine Int.lt_of_mul_lt_mul_right (a := v1) ?_ (by omega)
    omega
  have h1 : q * v0 ≤ 4294967295 * 4294967295 := Int.mul_le_mul (by omega) (by omega) hv0 (by omega)
  omega

/-- one less -/
theorem less (q r v1 v0 u u1 Y Q : Int) (hY : Y = v1 * 4294967296 + v0) (hr : q * v1 + r = u) (hQ : Q ≤ q) (hle : Q * Y ≤ u * 4294967296 + u1) (hpos : 0 < Y) (hu1 : u1 < 4294967296) (huY : u < Y)
    (ht : 4294967296 ≤ q ∨ 4294967296 * r + u1 < q * v0) : Q ≤ q - 1 := by
  have hne : q ≠ Q := by
    intro e
    subst e
    rcases ht with h | h
    · have : 4294967296 * Y ≤ q * Y := Int.mul_le_mul_of_nonneg_right h (by omega)
      omega
    · rw [hY, Int.mul_add, ← Int.mul_assoc, ← hr, Int.add_mul] at hle
      omega
  omega

theorem next (q r v1 u : Int) (hr : q * v1 + r = u) : (q - 1) * v1 + (r + v1) = u := by rw [Int.sub_mul]; omega

/-- the first guess -/
theorem guess (v1 v0 u u1 Y Q q : Int) (hY : Y = v1 * 4294967296 + v0) (hv0 : 0 ≤ v0) (hv0' : v0 < 4294967296) (hv1 : 2147483648 ≤ v1) (hu : 0 ≤ u) (huY : u < Y) (hu1 : u1 < 4294967296)
    (hQ0 : 0 ≤ Q) (hle : Q * Y ≤ u * 4294967296 + u1) (hq : u / v1 = q) :
    Q ≤ q ∧ 0 ≤ q ∧ q ≤ 4294967298 ∧ 0 ≤ q * v1 ∧ q * v1 ≤ u ∧ u - q * v1 < v1 := by
  have hm := Int.mul_ediv_add_emod u v1
  have h1 := Int.emod_nonneg u (show v1 ≠ 0 by omega)
  have h2 := Int.emod_lt_of_pos u (show 0 < v1 by omega)
  have hq0 : 0 ≤ u / v1 := Int.ediv_nonneg hu (by omega)
  rw [hq] at hm hq0
  rw [Int.mul_comm] at hm
  have h3 : 0 ≤ q * v1 := Int.mul_nonneg hq0 (by omega)
  refine ⟨?_, hq0, ?_, h3, by omega, by omega⟩
  · have a : Q * (v1 * 4294967296) ≤ Q * Y := Int.mul_le_mul_of_nonneg_left (by omega) hQ0
    rw [← Int.mul_assoc] at a
    have b : Q * v1 ≤ u := by omega
    have : Q * v1 < (q + 1) * v1 := by rw [Int.add_mul]; omega
    have := Int.lt_of_mul_lt_mul_right this (by omega)
    omega
  · refine Int.not_lt.1 fun hlt => ?_
    have : 4294967299 * v1 ≤ q * v1 := Int.mul_le_mul_of_nonneg_right (by omega) (by omega)
    omega

theorem digit (u u1 Y Q : Int) (h0 : 0 < Y) (hu : 0 ≤ u) (hu1 : 0 ≤ u1) (hu1' : u1 < 4294967296) (huY : u < Y) (hQ : (u * 4294967296 + u1) / Y = Q) :
    0 ≤ Q ∧ Q ≤ 4294967295 ∧ Q * Y ≤ u * 4294967296 + u1 ∧ u * 4294967296 + u1 < (Q + 1) * Y ∧ 0 ≤ u * 4294967296 + u1 - Q * Y ∧ u * 4294967296 + u1 - Q * Y < Y := by
  have hm := Int.mul_ediv_add_emod (u * 4294967296 + u1) Y
  have h1 := Int.emod_nonneg (u * 4294967296 + u1) (show Y ≠ 0 by omega)
  have h2 := Int.emod_lt_of_pos (u * 4294967296 + u1) h0
  have hq0 : 0 ≤ (u * 4294967296 + u1) / Y := Int.ediv_nonneg (by omega) (by omega)
  rw [hQ] at hm hq0
  rw [Int.mul_comm] at hm
  have e : (Q + 1) * Y = Q * Y + Y := by rw [Int.add_mul, Int.one_mul]
  refine ⟨hq0, ?_, by omega, by omega, by omega, by omega⟩
  refine Int.not_lt.1 fun hlt => ?_
  have : 4294967296 * Y ≤ Q * Y := Int.mul_le_mul_of_nonneg_right (by omega) (by omega)
  omega

theorem prod_bd (q v0 : Int) (h0 : 0 ≤ q) (hq : q < 4294967296) (hv : 0 ≤ v0) (hv' : v0 ≤ 4294967295) : 0 ≤ q * v0 ∧ q * v0 ≤ 18446744065119617025 :=
  ⟨Int.mul_nonneg h0 hv, by have := Int.mul_le_mul (show q ≤ 4294967295 by omega) hv' hv (by omega); omega⟩

end Go.Proofs.Ytdlpemmoobbgnaa.dv
