/- Div64 at all arguments that do not panic: quotient and rest. -/
import Derived.Test.YtdlpemmoobbgnaaBits
import Derived.Test.YtdlpemmoobbgnaaNum
import Derived.Deep.QuietTactic
import Derived.BigQuiet
set_option linter.unusedVariables false
set_option linter.unusedSimpArgs false
namespace Go.Proofs.Ytdlpemmoobbgnaa
open Go.RowKit

theorem dv.unscale (n q y P Y b : Int) (hP : 0 < P) (hy : 0 < y) (hY : Y = y * P) (hn : n * P = q * Y + b) (h0 : 0 ≤ b) (hb : b < Y) : q = n / y ∧ b / P = n % y := by
  have e : b = (n - q * y) * P := by rw [Int.sub_mul, hn, hY]; rw [Int.mul_assoc]; omega
  have hr : b / P = n - q * y := by rw [e]; exact Int.mul_ediv_cancel _ (by omega)
  have r0 : 0 ≤ n - q * y := by
    refine Int.not_lt.1 fun h => ?_
    have := Int.mul_lt_mul_of_pos_right h hP
    rw [← e] at this; omega
  have r1 : n - q * y < y := by
    refine Int.not_le.1 fun h => ?_
    have := Int.mul_le_mul_of_nonneg_right h (show 0 ≤ P by omega)
    rw [← e] at this; omega
  have hq : n / y = q := by
    have : n = (n - q * y) + q * y := by omega
    rw [this, Int.add_mul_ediv_right _ _ (by omega), Int.ediv_eq_zero_of_lt r0 r1]; omega
  refine ⟨hq.symm, ?_⟩
  rw [hr, Int.emod_def, hq, Int.mul_comm]

theorem bits_split (y : Nat) (h0 : 0 < y) (h1 : y < 18446744073709551616) : ∃ s : Nat, s < 64 ∧ 64 - (Lib.bitLen y : Int) = s ∧ 9223372036854775808 ≤ y * 2 ^ s ∧ y * 2 ^ s < 18446744073709551616 := by
  obtain ⟨a, b, c⟩ := num.bitLen_bounds 64 y h0 h1 (by omega)
  have d := Lib.bitLen_le y 64 (by omega) h1
  have e : 2 ^ Lib.bitLen y * 2 ^ (64 - Lib.bitLen y) = 2 ^ 64 := by rw [← Nat.pow_add]; congr 1; omega
  have p : 0 < 2 ^ (64 - Lib.bitLen y) := Nat.pow_pos (by omega)
  refine ⟨64 - Lib.bitLen y, by omega, by omega, ?_, ?_⟩
  · have := Nat.mul_le_mul_right (2 ^ (64 - Lib.bitLen y)) c
    rw [e, Nat.mul_assoc] at this; omega
  · have := Nat.mul_lt_mul_of_pos_right b p
    rw [e] at this; omega

set_option maxHeartbeats 400000 in
theorem Div64_any (hi lo y : Int) (w : World) (h0 : 0 ≤ hi) (h1 : hi < y) (h2 : y ≤ 18446744073709551615) (h3 : 0 ≤ lo) (h4 : lo ≤ 18446744073709551615) :
    Calls Try.prog 78 #[.int .u64 hi, .int .u64 lo, .int .u64 y] w fun e w' =>
      e = .returned (.tuple #[.int .u64 ((hi * 18446744073709551616 + lo) / y), .int .u64 ((hi * 18446744073709551616 + lo) % y)]) ∧ ∃ n, w' = w.drewN n := by
  by_cases hz : hi = 0
  · subst hz
    have y0 : (y == 0) = false := beq_eq_false_iff_ne.2 (by omega)
    go_enter Try.func78, Try.ntmps78
    go_wp2_with fail
    go_quiet (fail)
    go_wp2_with fail
    go_ret2
    exact ⟨by simp, _, rfl⟩
  · obtain ⟨hi, rfl⟩ := Int.eq_ofNat_of_zero_le h0
    obtain ⟨lo, rfl⟩ := Int.eq_ofNat_of_zero_le h3
    obtain ⟨y, rfl⟩ := Int.eq_ofNat_of_zero_le (show 0 ≤ y by omega)
    obtain ⟨s, s1, s2, s3, s4⟩ := bits_split y (by omega) (by omega)
    have hP : (2 : Int) ^ s = ((2 ^ s : Nat) : Int) := by simp
    have hR : (2 : Int) ^ (64 - s) = ((2 ^ (64 - s) : Nat) : Int) := by simp
    have hPR : 2 ^ (64 - s) * 2 ^ s = 18446744073709551616 := by rw [← Nat.pow_add, show 64 - s + s = 64 by omega]
    have p0 : 0 < 2 ^ s := Nat.pow_pos (by omega)
    have p1 : 0 < 2 ^ (64 - s) := Nat.pow_pos (by omega)
    have hor := num.or_apart hi (lo / 2 ^ (64 - s)) s
    obtain ⟨P, eP⟩ : ∃ P, P = 2 ^ s := ⟨_, rfl⟩
    obtain ⟨R, eR⟩ : ∃ R, R = 2 ^ (64 - s) := ⟨_, rfl⟩
    rw [← eP, ← eR] at hor
    rw [← eP] at hP hPR p0 s3 s4
    rw [← eR] at hR hPR p1
    have e1 : R * (lo / R) + lo % R = lo := Nat.div_add_mod lo R
    have e2 : lo % R < R := Nat.mod_lt _ p1
    obtain ⟨a, ea⟩ : ∃ a, a = lo / R := ⟨_, rfl⟩
    obtain ⟨b, eb⟩ : ∃ b, b = lo % R := ⟨_, rfl⟩
    rw [← ea, ← eb] at e1
    rw [← eb] at e2
    rw [← ea] at hor
    have haP : a < P := by
      refine Nat.lt_of_not_le fun h => ?_
      have := Nat.mul_le_mul_left R h
      omega
    have hbP : b * P < 18446744073709551616 := by rw [← hPR]; exact Nat.mul_lt_mul_of_pos_right e2 p0
    have hlo : lo * P = a * 18446744073709551616 + b * P := by
      rw [← e1, Nat.add_mul, ← hPR, Nat.mul_comm R a, Nat.mul_assoc]
    have huY : hi * P + a < y * P := by
      have : (hi + 1) * P ≤ y * P := Nat.mul_le_mul_right P (by omega)
      rw [Nat.add_mul, Nat.one_mul] at this
      omega
    have hor' := hor haP (by omega)
    obtain ⟨Y, eY⟩ : ∃ Y : Int, Y = ((y * P : Nat) : Int) := ⟨_, rfl⟩
    obtain ⟨u, eu⟩ : ∃ u : Int, u = ((hi * P + a : Nat) : Int) := ⟨_, rfl⟩
    obtain ⟨L, eL⟩ : ∃ L : Int, L = ((b * P : Nat) : Int) := ⟨_, rfl⟩
    obtain ⟨Q, eQ⟩ : ∃ Q : Int, (u * 4294967296 + L / 4294967296) / Y = Q := ⟨_, rfl⟩
    obtain ⟨d1, d2, d3, d4, d5, d6⟩ := dv.digit u (L / 4294967296) Y Q (by omega) (by omega) (by omega) (by omega) (by omega) eQ
    obtain ⟨u2, eu2⟩ : ∃ u2 : Int, u2 = u * 4294967296 + L / 4294967296 - Q * Y := ⟨_, rfl⟩
    obtain ⟨Q2, eQ2⟩ : ∃ Q2 : Int, (u2 * 4294967296 + L % 4294967296) / Y = Q2 := ⟨_, rfl⟩
    obtain ⟨f1, f2, f3, f4, f5, f6⟩ := dv.digit u2 (L % 4294967296) Y Q2 (by omega) (by omega) (by omega) (by omega) (by omega) eQ2
    obtain ⟨b4, eb4⟩ : ∃ b4 : Int, b4 = u2 * 4294967296 + L % 4294967296 - Q2 * Y := ⟨_, rfl⟩
    have hw (x : Int) : IntKind.u64.wrap x = x % 18446744073709551616 := IntKind.wrap_u64 x
    refine (Div64_core hi lo y w (by omega) (by omega) h2 h3 h4 s s1 (Lib.hid s2) Y (Y / 4294967296) (Y % 4294967296) ((hi * P : Nat) : Int) u L (L / 4294967296) (L % 4294967296) Q Q2
      (u * 4294967296 % 18446744073709551616) ((u * 4294967296 % 18446744073709551616 + L / 4294967296) % 18446744073709551616) (Q * Y % 18446744073709551616) u2
      (u2 * 4294967296 % 18446744073709551616) ((u2 * 4294967296 % 18446744073709551616 + L % 4294967296) % 18446744073709551616) (Q2 * Y % 18446744073709551616) b4 (b4 / 2 ^ s)
      ?_ rfl ?_ ?_ ?_ ?_ rfl ?_ (hw _) (hw _) (hw _) ?_ (hw _) (hw _) (hw _) ?_ rfl (by omega) (by omega) (by omega) (by omega) (by omega) (by omega) (by omega) (by omega) (by omega) (by omega)
      (by omega) (by omega) (by omega) (by omega) (by omega) (by omega) (by omega) (by omega) (Lib.hid (by omega)) (Lib.hid eQ) (Lib.hid eQ2)).mono ?_
    · rw [hw, hP, eY, ← Int.natCast_mul]; omega
    · exact num.and32 Y (by omega) (by omega)
    · rw [hw, hP, ← Int.natCast_mul]; omega
    · rw [hR, eu, ← Int.natCast_ediv, ← ea]; exact hor'
    · rw [hw, hP, eL, ← Int.natCast_mul, hlo]; omega
    · exact num.and32 L (by omega) (by omega)
    · rw [hw, eu2]; omega
    · rw [hw, eb4]; omega
    · rintro e w' ⟨rfl, rfl⟩
      have key : (hi * 18446744073709551616 + lo) * P = (Q * 4294967296 + Q2) * Y + b4 := by
        have h5 : ((lo * P : Nat) : Int) = a * 18446744073709551616 + L := by rw [hlo, eL]; simp
        have h6 : u = hi * P + a := by rw [eu]; simp
        rw [Int.natCast_mul] at h5
        rw [Int.add_mul, h5, Int.add_mul, Int.mul_right_comm Q, eb4]
        have h7 : (hi : Int) * 18446744073709551616 * P = (u - a) * 18446744073709551616 := by rw [h6, Int.mul_right_comm]; omega
        rw [h7]
        omega
      obtain ⟨g1, g2⟩ := dv.unscale (hi * 18446744073709551616 + lo) (Q * 4294967296 + Q2) y P Y b4 (by omega) (by omega) (by rw [eY]; simp) key (by omega) (by omega)
      exact ⟨by rw [hP, g1, g2], 0, rfl⟩

end Go.Proofs.Ytdlpemmoobbgnaa
