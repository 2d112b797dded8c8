/- Plain facts for a division of two words by one (Knuth's estimate of a digit to the base 2^32). math/bits: LeadingZeros64 by bitLen; Div64 by division. Small facts on words: masks, joined halves, shifts, the number of binary digits. Div64 at all arguments that do not panic: quotient and rest. What memory holds: lists of words, integers, lists of integers, matrices; and what stays of it. Plain facts on residues. The walks of modp's field: residue, inverse, scale, take. Grids: a list of rows, each in a block of its own. The walk of modp's residues: a grid of least residues. The walks of nat.size, nat.own, nat.Least and zint.of, zint.Of. Plain facts on digits: the number that a list of digits tells; one number, one list in least form. The walk of modp's field: take. The elimination of modp, as a function on matrices of residues. -/
import Derived.Test.YtdlpemmoobbgnaaGL
import Derived.WalkKit
import Derived.WalkSpells
import Derived.WalkLawsBesides
import Derived.Lib.Hide
import Derived.Lib.BitFns
import Derived.Deep.QuietTactic
import Derived.BigQuiet
import Derived.WalkSmall
import Derived.StillTailTactics
import Derived.Deep.RegionWith
import Derived.Deep.RegionHeld3
import Derived.Laws.CopyOwn
import Derived.BigRegion
set_option linter.unusedVariables false
set_option linter.unusedSimpArgs false
namespace Go.Proofs.Ytdlpemmoobbgnaa.dv

/-- the digit is met: the test says no -/
theorem stop (q r v1 v0 u u1 Y Q : Int) (hY : Y = v1 * 4294967296 + v0) (hr : q * v1 + r = u) (hQ : Q ≤ q) (hlt : u * 4294967296 + u1 < (Q + 1) * Y) (hpos : 0 < Y)
    (ht : q * v0 ≤ 4294967296 * r + u1) : q = Q := by
  have e : q * Y ≤ u * 4294967296 + u1 := by
    rw [hY, Int.mul_add, ← Int.mul_assoc, ← hr, Int.add_mul]
    omega
  have : q < Q + 1 := Int.lt_of_mul_lt_mul_right (Int.lt_of_le_of_lt e hlt) (by omega)
  omega

/-- the digit is met: the rest has passed the base -/
theorem stop' (q r v1 v0 u u1 Y Q : Int) (hY : Y = v1 * 4294967296 + v0) (hr : q * v1 + r = u) (hQ : Q ≤ q) (hlt : u * 4294967296 + u1 < (Q + 1) * Y) (hpos : 0 < Y)
    (h0 : 0 ≤ q) (hv0 : 0 ≤ v0) (hv0' : v0 < 4294967296) (hv1 : 1 ≤ v1) (huY : u < Y) (hu1 : 0 ≤ u1) (hbig : 4294967296 ≤ r) : q = Q := by
  refine stop q r v1 v0 u u1 Y Q hY hr hQ hlt hpos ?_
  have hq : q < 4294967296 := by
    refine Int.lt_of_mul_lt_mul_right (a := v1) ?_ (by omega)
    omega
  have h1 : q * v0 ≤ 4294967295 * 4294967295 := Int.mul_le_mul (by omega) (by omega) hv0 (by omega)
  omega

/-- one less -/
theorem less (q r v1 v0 u u1 Y Q : Int) (hY : Y = v1 * 4294967296 + v0) (hr : q * v1 + r = u) (hQ : Q ≤ q) (hle : Q * Y ≤ u * 4294967296 + u1) (hpos : 0 < Y) (hu1 : u1 < 4294967296) (huY : u < Y)
    (ht : 4294967296 ≤ q ∨ 4294967296 * r + u1 < q * v0) : Q ≤ q - 1 := by
  have hne : q ≠ Q := by
    intro e
    subst e
    rcases ht with h | h
    · have : 4294967296 * Y ≤ q * Y := Int.mul_le_mul_of_nonneg_right h (by omega)
      omega
    · rw [hY, Int.mul_add, ← Int.mul_assoc, ← hr, Int.add_mul] at hle
      omega
  omega

theorem next (q r v1 u : Int) (hr : q * v1 + r = u) : (q - 1) * v1 + (r + v1) = u := by rw [Int.sub_mul]; omega

/-- the first guess -/
theorem guess (v1 v0 u u1 Y Q q : Int) (hY : Y = v1 * 4294967296 + v0) (hv0 : 0 ≤ v0) (hv0' : v0 < 4294967296) (hv1 : 2147483648 ≤ v1) (hu : 0 ≤ u) (huY : u < Y) (hu1 : u1 < 4294967296)
    (hQ0 : 0 ≤ Q) (hle : Q * Y ≤ u * 4294967296 + u1) (hq : u / v1 = q) :
    Q ≤ q ∧ 0 ≤ q ∧ q ≤ 4294967298 ∧ 0 ≤ q * v1 ∧ q * v1 ≤ u ∧ u - q * v1 < v1 := by
  have hm := Int.mul_ediv_add_emod u v1
  have h1 := Int.emod_nonneg u (show v1 ≠ 0 by omega)
  have h2 := Int.emod_lt_of_pos u (show 0 < v1 by omega)
  have hq0 : 0 ≤ u / v1 := Int.ediv_nonneg hu (by omega)
  rw [hq] at hm hq0
  rw [Int.mul_comm] at hm
  have h3 : 0 ≤ q * v1 := Int.mul_nonneg hq0 (by omega)
  refine ⟨?_, hq0, ?_, h3, by omega, by omega⟩
  · have a : Q * (v1 * 4294967296) ≤ Q * Y := Int.mul_le_mul_of_nonneg_left (by omega) hQ0
    rw [← Int.mul_assoc] at a
    have b : Q * v1 ≤ u := by omega
    have : Q * v1 < (q + 1) * v1 := by rw [Int.add_mul]; omega
    have := Int.lt_of_mul_lt_mul_right this (by omega)
    omega
  · refine Int.not_lt.1 fun hlt => ?_
    have : 4294967299 * v1 ≤ q * v1 := Int.mul_le_mul_of_nonneg_right (by omega) (by omega)
    omega

theorem digit (u u1 Y Q : Int) (h0 : 0 < Y) (hu : 0 ≤ u) (hu1 : 0 ≤ u1) (hu1' : u1 < 4294967296) (huY : u < Y) (hQ : (u * 4294967296 + u1) / Y = Q) :
    0 ≤ Q ∧ Q ≤ 4294967295 ∧ Q * Y ≤ u * 4294967296 + u1 ∧ u * 4294967296 + u1 < (Q + 1) * Y ∧ 0 ≤ u * 4294967296 + u1 - Q * Y ∧ u * 4294967296 + u1 - Q * Y < Y := by
  have hm := Int.mul_ediv_add_emod (u * 4294967296 + u1) Y
  have h1 := Int.emod_nonneg (u * 4294967296 + u1) (show Y ≠ 0 by omega)
  have h2 := Int.emod_lt_of_pos (u * 4294967296 + u1) h0
  have hq0 : 0 ≤ (u * 4294967296 + u1) / Y := Int.ediv_nonneg (by omega) (by omega)
  rw [hQ] at hm hq0
  rw [Int.mul_comm] at hm
  have e : (Q + 1) * Y = Q * Y + Y := by rw [Int.add_mul, Int.one_mul]
  refine ⟨hq0, ?_, by omega, by omega, by omega, by omega⟩
  refine Int.not_lt.1 fun hlt => ?_
  have : 4294967296 * Y ≤ Q * Y := Int.mul_le_mul_of_nonneg_right (by omega) (by omega)
  omega

theorem prod_bd (q v0 : Int) (h0 : 0 ≤ q) (hq : q < 4294967296) (hv : 0 ≤ v0) (hv' : v0 ≤ 4294967295) : 0 ≤ q * v0 ∧ q * v0 ≤ 18446744065119617025 :=
  ⟨Int.mul_nonneg h0 hv, by have := Int.mul_le_mul (show q ≤ 4294967295 by omega) hv' hv (by omega); omega⟩

end Go.Proofs.Ytdlpemmoobbgnaa.dv

namespace Go.Proofs.Ytdlpemmoobbgnaa
open Go.RowKit

theorem LeadingZeros64_any (x : Int) (w : World) (h0 : 0 ≤ x) (h1 : x ≤ 18446744073709551615) :
    Calls Try.prog 105 #[.int .u64 x] w fun e w' => e = .returned (.int .i64 (64 - (Lib.bitLen x.toNat : Int))) ∧ w = w' := by
  have l := Lib.bitLen_le x.toNat 64 (by omega) (by omega)
  go_enter Try.func105, Try.ntmps105
  go_wp2_with (go_at_call 127; refine (Len64_any x _ h0 h1).mono ?_; rintro e w' ⟨rfl, rfl⟩)
  go_ret
  exact ⟨rfl, rfl⟩

set_option maxHeartbeats 2000000 in
/-- Div64, every value on its way named ahead. -/
theorem Div64_core (hi lo y : Int) (w : World) (h0 : 1 ≤ hi) (h1 : hi < y) (h2 : y ≤ 18446744073709551615) (h3 : 0 ≤ lo) (h4 : lo ≤ 18446744073709551615) (s : Nat) (hs : s < 64)
    (hs1 : Hid (64 - (Lib.bitLen y.toNat : Int) = s)) (Y v1 v0 A u L un1 un0 Q Q2 a1 a2 a3 u2 b1 b2 b3 b4 rem : Int)
    (hY : IntKind.u64.wrap (y * 2 ^ s) = Y) (hv1 : Y / 4294967296 = v1) (hv0 : bits BinOp.and IntKind.u64 Y 4294967295 = v0) (hA : IntKind.u64.wrap (hi * 2 ^ s) = A)
    (hu : bits BinOp.or IntKind.u64 A (lo / 2 ^ (64 - s)) = u) (hL : IntKind.u64.wrap (lo * 2 ^ s) = L) (hun1 : L / 4294967296 = un1) (hun0 : bits BinOp.and IntKind.u64 L 4294967295 = un0)
    (ha1 : IntKind.u64.wrap (u * 4294967296) = a1) (ha2 : IntKind.u64.wrap (a1 + un1) = a2) (ha3 : IntKind.u64.wrap (Q * Y) = a3) (ha4 : IntKind.u64.wrap (a2 - a3) = u2)
    (hb1 : IntKind.u64.wrap (u2 * 4294967296) = b1) (hb2 : IntKind.u64.wrap (b1 + un0) = b2) (hb3 : IntKind.u64.wrap (Q2 * Y) = b3) (hb4 : IntKind.u64.wrap (b2 - b3) = b4)
    (hrem : b4 / 2 ^ s = rem)
    (cY : 1 ≤ Y) (cY' : Y ≤ 18446744073709551615) (cv1 : 2147483648 ≤ v1) (cv1' : v1 ≤ 4294967295) (cv0 : 0 ≤ v0) (cv0' : v0 ≤ 4294967295) (cu : 0 ≤ u) (cuY : u < Y) (cL : 0 ≤ L) (cL' : L ≤ 18446744073709551615)
    (cun1 : 0 ≤ un1) (cun1' : un1 ≤ 4294967295) (cun0 : 0 ≤ un0) (cun0' : un0 ≤ 4294967295) (cu2 : 0 ≤ u2) (cu2Y : u2 < Y) (cb4 : 0 ≤ b4) (cb4' : b4 ≤ 18446744073709551615)
    (HY : Hid (Y = v1 * 4294967296 + v0)) (HQ : Hid ((u * 4294967296 + un1) / Y = Q)) (HQ2 : Hid ((u2 * 4294967296 + un0) / Y = Q2)) :
    Calls Try.prog 78 #[.int .u64 hi, .int .u64 lo, .int .u64 y] w fun e w' => e = .returned (.tuple #[.int .u64 (Q * 4294967296 + Q2), .int .u64 rem]) ∧ w = w' := by
  have y0 : (y == 0) = false := beq_eq_false_iff_ne.2 (by omega)
  have hi0 : (hi == 0) = false := beq_eq_false_iff_ne.2 (by omega)
  obtain ⟨d1, d2, d3, d4, -, -⟩ := dv.digit u un1 Y Q (by omega) cu cun1 (by omega) cuY HQ.out
  obtain ⟨e1, e2, e3, e4, -, -⟩ := dv.digit u2 un0 Y Q2 (by omega) cu2 cun0 (by omega) cu2Y HQ2.out
  obtain ⟨g1, g2, g3, g4, g5, g6⟩ := dv.guess v1 v0 u un1 Y Q _ HY.out cv0 (by omega) cv1 cu cuY (by omega) d1 d3 rfl
  obtain ⟨k1, k2, k3, k4, k5, k6⟩ := dv.guess v1 v0 u2 un0 Y Q2 _ HY.out cv0 (by omega) cv1 cu2 cu2Y (by omega) e1 e3 rfl
  have D3 := Lib.hid d3
  have D4 := Lib.hid d4
  have E3 := Lib.hid e3
  have E4 := Lib.hid e4
  clear d3 d4 e3 e4
  go_enter Try.func78, Try.ntmps78
  go_wp2_with (go_at_call 105; refine (LeadingZeros64_any y _ (by omega) h2).mono ?_; rintro e w' ⟨rfl, rfl⟩; rw [hs1.out])
  go_loop [15, 16] (fun qq rr => ∃ q r : Int, Q ≤ q ∧ q ≤ 4294967298 ∧ 0 ≤ r ∧ r < 4294967296 ∧ Hid (q * v1 + r = u) ∧ qq = .int .u64 q ∧ rr = .int .u64 r) (fun qq _ => (intOf qq).toNat)
  case atStart => exact ⟨u / v1, u - u / v1 * v1, g1, g3, by omega, by omega, (by show _ = _; omega), rfl, rfl⟩
  case round =>
    obtain ⟨q, r, r1, r2, r3, r4, r5, rfl, rfl⟩ := hrel
    by_cases hbig : 4294967296 ≤ q
    · have N := Lib.hid (dv.less q r v1 v0 u un1 Y Q HY.out r5.out r1 D3.out (by omega) (by omega) cuY (Or.inl hbig))
      by_cases hover : 4294967296 ≤ r + v1
      · have M := dv.stop' (q - 1) (r + v1) v1 v0 u un1 Y Q HY.out (dv.next q r v1 u r5.out) N.out D4.out (by omega) (by have := N.out; omega) cv0 (by omega) (by omega) cuY cun1 hover
        obtain rfl : q = Q + 1 := by omega
        go_wp2
        go_loop [18, 16] (fun qq rr => ∃ q r : Int, Q2 ≤ q ∧ q ≤ 4294967298 ∧ 0 ≤ r ∧ r < 4294967296 ∧ Hid (q * v1 + r = u2) ∧ qq = .int .u64 q ∧ rr = .int .u64 r) (fun qq _ => (intOf qq).toNat)
        case atStart => exact ⟨u2 / v1, u2 - u2 / v1 * v1, k1, k3, by omega, by omega, (by show _ = _; omega), rfl, rfl⟩
        case round =>
          obtain ⟨q, r, r1, r2, r3, r4, r5, rfl, rfl⟩ := hrel
          by_cases hbig : 4294967296 ≤ q
          · have N := Lib.hid (dv.less q r v1 v0 u2 un0 Y Q2 HY.out r5.out r1 E3.out (by omega) (by omega) cu2Y (Or.inl hbig))
            by_cases hover : 4294967296 ≤ r + v1
            · have M := dv.stop' (q - 1) (r + v1) v1 v0 u2 un0 Y Q2 HY.out (dv.next q r v1 u2 r5.out) N.out E4.out (by omega) (by have := N.out; omega) cv0 (by omega) (by omega) cu2Y cun0 hover
              obtain rfl : q = Q2 + 1 := by omega
              go_wp2
              go_ret2
              exact ⟨rfl, rfl⟩
            · go_wp2
              go_round
              case rel => exact ⟨q - 1, r + v1, N.out, by omega, by omega, by omega, dv.next q r v1 u2 r5.out, rfl, rfl⟩
              case measure => simp [intOf]; omega
          · obtain ⟨m1, m2⟩ := dv.prod_bd q v0 (by omega) (by omega) cv0 cv0'
            by_cases ht : 4294967296 * r + un0 < q * v0
            · have N := Lib.hid (dv.less q r v1 v0 u2 un0 Y Q2 HY.out r5.out r1 E3.out (by omega) (by omega) cu2Y (Or.inr ht))
              have hq1 : 1 ≤ q := by have := N.out; omega
              by_cases hover : 4294967296 ≤ r + v1
              · have M := dv.stop' (q - 1) (r + v1) v1 v0 u2 un0 Y Q2 HY.out (dv.next q r v1 u2 r5.out) N.out E4.out (by omega) (by have := N.out; omega) cv0 (by omega) (by omega) cu2Y cun0 hover
                obtain rfl : q = Q2 + 1 := by omega
                go_wp2
                go_ret2
                exact ⟨rfl, rfl⟩
              · go_wp2
                go_round
                case rel => exact ⟨q - 1, r + v1, N.out, by omega, by omega, by omega, dv.next q r v1 u2 r5.out, rfl, rfl⟩
                case measure => simp [intOf]; omega
            · obtain rfl := dv.stop q r v1 v0 u2 un0 Y Q2 HY.out r5.out r1 E4.out (by omega) (by omega)
              go_wp2
              go_ret2
              exact ⟨rfl, rfl⟩
      · go_wp2
        go_round
        case rel => exact ⟨q - 1, r + v1, N.out, by omega, by omega, by omega, dv.next q r v1 u r5.out, rfl, rfl⟩
        case measure => simp [intOf]; omega
    · obtain ⟨m1, m2⟩ := dv.prod_bd q v0 (by omega) (by omega) cv0 cv0'
      by_cases ht : 4294967296 * r + un1 < q * v0
      · have N := Lib.hid (dv.less q r v1 v0 u un1 Y Q HY.out r5.out r1 D3.out (by omega) (by omega) cuY (Or.inr ht))
        have hq1 : 1 ≤ q := by have := N.out; omega
        by_cases hover : 4294967296 ≤ r + v1
        · have M := dv.stop' (q - 1) (r + v1) v1 v0 u un1 Y Q HY.out (dv.next q r v1 u r5.out) N.out D4.out (by omega) (by have := N.out; omega) cv0 (by omega) (by omega) cuY cun1 hover
          obtain rfl : q = Q + 1 := by omega
          go_wp2
          go_loop [18, 16] (fun qq rr => ∃ q r : Int, Q2 ≤ q ∧ q ≤ 4294967298 ∧ 0 ≤ r ∧ r < 4294967296 ∧ Hid (q * v1 + r = u2) ∧ qq = .int .u64 q ∧ rr = .int .u64 r) (fun qq _ => (intOf qq).toNat)
          case atStart => exact ⟨u2 / v1, u2 - u2 / v1 * v1, k1, k3, by omega, by omega, (by show _ = _; omega), rfl, rfl⟩
          case round =>
            obtain ⟨q, r, r1, r2, r3, r4, r5, rfl, rfl⟩ := hrel
            by_cases hbig : 4294967296 ≤ q
            · have N := Lib.hid (dv.less q r v1 v0 u2 un0 Y Q2 HY.out r5.out r1 E3.out (by omega) (by omega) cu2Y (Or.inl hbig))
              by_cases hover : 4294967296 ≤ r + v1
              · have M := dv.stop' (q - 1) (r + v1) v1 v0 u2 un0 Y Q2 HY.out (dv.next q r v1 u2 r5.out) N.out E4.out (by omega) (by have := N.out; omega) cv0 (by omega) (by omega) cu2Y cun0 hover
                obtain rfl : q = Q2 + 1 := by omega
                go_wp2
                go_ret2
                exact ⟨rfl, rfl⟩
              · go_wp2
                go_round
                case rel => exact ⟨q - 1, r + v1, N.out, by omega, by omega, by omega, dv.next q r v1 u2 r5.out, rfl, rfl⟩
                case measure => simp [intOf]; omega
            · obtain ⟨m1, m2⟩ := dv.prod_bd q v0 (by omega) (by omega) cv0 cv0'
              by_cases ht : 4294967296 * r + un0 < q * v0
              · have N := Lib.hid (dv.less q r v1 v0 u2 un0 Y Q2 HY.out r5.out r1 E3.out (by omega) (by omega) cu2Y (Or.inr ht))
                have hq1 : 1 ≤ q := by have := N.out; omega
                by_cases hover : 4294967296 ≤ r + v1
                · have M := dv.stop' (q - 1) (r + v1) v1 v0 u2 un0 Y Q2 HY.out (dv.next q r v1 u2 r5.out) N.out E4.out (by omega) (by have := N.out; omega) cv0 (by omega) (by omega) cu2Y cun0 hover
                  obtain rfl : q = Q2 + 1 := by omega
                  go_wp2
                  go_ret2
                  exact ⟨rfl, rfl⟩
                · go_wp2
                  go_round
                  case rel => exact ⟨q - 1, r + v1, N.out, by omega, by omega, by omega, dv.next q r v1 u2 r5.out, rfl, rfl⟩
                  case measure => simp [intOf]; omega
              · obtain rfl := dv.stop q r v1 v0 u2 un0 Y Q2 HY.out r5.out r1 E4.out (by omega) (by omega)
                go_wp2
                go_ret2
                exact ⟨rfl, rfl⟩
        · go_wp2
          go_round
          case rel => exact ⟨q - 1, r + v1, N.out, by omega, by omega, by omega, dv.next q r v1 u r5.out, rfl, rfl⟩
          case measure => simp [intOf]; omega
      · obtain rfl := dv.stop q r v1 v0 u un1 Y Q HY.out r5.out r1 D4.out (by omega) (by omega)
        go_wp2
        go_loop [18, 16] (fun qq rr => ∃ q r : Int, Q2 ≤ q ∧ q ≤ 4294967298 ∧ 0 ≤ r ∧ r < 4294967296 ∧ Hid (q * v1 + r = u2) ∧ qq = .int .u64 q ∧ rr = .int .u64 r) (fun qq _ => (intOf qq).toNat)
        case atStart => exact ⟨u2 / v1, u2 - u2 / v1 * v1, k1, k3, by omega, by omega, (by show _ = _; omega), rfl, rfl⟩
        case round =>
          obtain ⟨q, r, r1, r2, r3, r4, r5, rfl, rfl⟩ := hrel
          by_cases hbig : 4294967296 ≤ q
          · have N := Lib.hid (dv.less q r v1 v0 u2 un0 Y Q2 HY.out r5.out r1 E3.out (by omega) (by omega) cu2Y (Or.inl hbig))
            by_cases hover : 4294967296 ≤ r + v1
            · have M := dv.stop' (q - 1) (r + v1) v1 v0 u2 un0 Y Q2 HY.out (dv.next q r v1 u2 r5.out) N.out E4.out (by omega) (by have := N.out; omega) cv0 (by omega) (by omega) cu2Y cun0 hover
              obtain rfl : q = Q2 + 1 := by omega
              go_wp2
              go_ret2
              exact ⟨rfl, rfl⟩
            · go_wp2
              go_round
              case rel => exact ⟨q - 1, r + v1, N.out, by omega, by omega, by omega, dv.next q r v1 u2 r5.out, rfl, rfl⟩
              case measure => simp [intOf]; omega
          · obtain ⟨m1, m2⟩ := dv.prod_bd q v0 (by omega) (by omega) cv0 cv0'
            by_cases ht : 4294967296 * r + un0 < q * v0
            · have N := Lib.hid (dv.less q r v1 v0 u2 un0 Y Q2 HY.out r5.out r1 E3.out (by omega) (by omega) cu2Y (Or.inr ht))
              have hq1 : 1 ≤ q := by have := N.out; omega
              by_cases hover : 4294967296 ≤ r + v1
              · have M := dv.stop' (q - 1) (r + v1) v1 v0 u2 un0 Y Q2 HY.out (dv.next q r v1 u2 r5.out) N.out E4.out (by omega) (by have := N.out; omega) cv0 (by omega) (by omega) cu2Y cun0 hover
                obtain rfl : q = Q2 + 1 := by omega
                go_wp2
                go_ret2
                exact ⟨rfl, rfl⟩
              · go_wp2
                go_round
                case rel => exact ⟨q - 1, r + v1, N.out, by omega, by omega, by omega, dv.next q r v1 u2 r5.out, rfl, rfl⟩
                case measure => simp [intOf]; omega
            · obtain rfl := dv.stop q r v1 v0 u2 un0 Y Q2 HY.out r5.out r1 E4.out (by omega) (by omega)
              go_wp2
              go_ret2
              exact ⟨rfl, rfl⟩
end Go.Proofs.Ytdlpemmoobbgnaa

namespace Go.Proofs.Ytdlpemmoobbgnaa.num

theorem and_mask (a : Int) (k : Nat) (h0 : 0 ≤ a) (h1 : a < 18446744073709551616) (hk : k < 64) : bits .and .u64 a ((2 ^ k - 1 : Nat) : Int) = a % ((2 ^ k : Nat) : Int) := by
  have hp : 2 ^ k - 1 < 18446744073709551616 := by
    have : 2 ^ k < 2 ^ 64 := Nat.pow_lt_pow_right (by omega) hk
    omega
  obtain ⟨A, rfl⟩ := Int.eq_ofNat_of_zero_le h0
  rw [u64_and_nat A _ (by omega) hp, Nat.and_two_pow_sub_one_eq_mod]
  rfl

theorem and32 (a : Int) (h0 : 0 ≤ a) (h1 : a < 18446744073709551616) : bits .and .u64 a 4294967295 = a % 4294967296 := and_mask a 32 h0 h1 (by omega)

/-- a multiple of 2^s and a number below 2^s lie apart -/
theorem or_apart (a b : Nat) (s : Nat) (hb : b < 2 ^ s) (h1 : a * 2 ^ s + b < 18446744073709551616) : bits .or .u64 ((a * 2 ^ s : Nat) : Int) (b : Int) = ((a * 2 ^ s + b : Nat) : Int) := by
  rw [u64_or_nat _ _ (by omega) (by omega), Nat.mul_comm a, Nat.two_pow_add_eq_or_of_lt hb]

theorem bitLen_bounds : ∀ (k x : Nat), 0 < x → x < 2 ^ k → k ≤ 64 → 1 ≤ Lib.bitLen x ∧ x < 2 ^ Lib.bitLen x ∧ 2 ^ Lib.bitLen x ≤ 2 * x := by
  intro k
  induction k with
  | zero => intro x h0 h; simp at h; omega
  | succ k ih =>
    intro x h0 h hk
    have h64 : x < 2 ^ 64 := Nat.lt_of_lt_of_le h (Nat.pow_le_pow_right (by omega) hk)
    rw [Lib.bitLen_half x (by omega) h64]
    by_cases h1 : x / 2 = 0
    · obtain rfl : x = 1 := by omega
      decide
    · have h2 : x / 2 < 2 ^ k := by rw [Nat.pow_succ] at h; omega
      obtain ⟨a, b, c⟩ := ih (x / 2) (by omega) h2 (by omega)
      refine ⟨by omega, ?_, ?_⟩ <;> rw [Nat.add_comm, Nat.pow_succ] <;> omega

end Go.Proofs.Ytdlpemmoobbgnaa.num

namespace Go.Proofs.Ytdlpemmoobbgnaa
open Go.RowKit

theorem dv.unscale (n q y P Y b : Int) (hP : 0 < P) (hy : 0 < y) (hY : Y = y * P) (hn : n * P = q * Y + b) (h0 : 0 ≤ b) (hb : b < Y) : q = n / y ∧ b / P = n % y := by
  have e : b = (n - q * y) * P := by rw [Int.sub_mul, hn, hY]; rw [Int.mul_assoc]; omega
  have hr : b / P = n - q * y := by rw [e]; exact Int.mul_ediv_cancel _ (by omega)
  have r0 : 0 ≤ n - q * y := by
    refine Int.not_lt.1 fun h => ?_
    have := Int.mul_lt_mul_of_pos_right h hP
    rw [← e] at this; omega
  have r1 : n - q * y < y := by
    refine Int.not_le.1 fun h => ?_
    have := Int.mul_le_mul_of_nonneg_right h (show 0 ≤ P by omega)
    rw [← e] at this; omega
  have hq : n / y = q := by
    have : n = (n - q * y) + q * y := by omega
    rw [this, Int.add_mul_ediv_right _ _ (by omega), Int.ediv_eq_zero_of_lt r0 r1]; omega
  refine ⟨hq.symm, ?_⟩
  rw [hr, Int.emod_def, hq, Int.mul_comm]

theorem bits_split (y : Nat) (h0 : 0 < y) (h1 : y < 18446744073709551616) : ∃ s : Nat, s < 64 ∧ 64 - (Lib.bitLen y : Int) = s ∧ 9223372036854775808 ≤ y * 2 ^ s ∧ y * 2 ^ s < 18446744073709551616 := by
  obtain ⟨a, b, c⟩ := num.bitLen_bounds 64 y h0 h1 (by omega)
  have d := Lib.bitLen_le y 64 (by omega) h1
  have e : 2 ^ Lib.bitLen y * 2 ^ (64 - Lib.bitLen y) = 2 ^ 64 := by rw [← Nat.pow_add]; congr 1; omega
  have p : 0 < 2 ^ (64 - Lib.bitLen y) := Nat.pow_pos (by omega)
  refine ⟨64 - Lib.bitLen y, by omega, by omega, ?_, ?_⟩
  · have := Nat.mul_le_mul_right (2 ^ (64 - Lib.bitLen y)) c
    rw [e, Nat.mul_assoc] at this; omega
  · have := Nat.mul_lt_mul_of_pos_right b p
    rw [e] at this; omega

set_option maxHeartbeats 400000 in
theorem Div64_any (hi lo y : Int) (w : World) (h0 : 0 ≤ hi) (h1 : hi < y) (h2 : y ≤ 18446744073709551615) (h3 : 0 ≤ lo) (h4 : lo ≤ 18446744073709551615) :
    Calls Try.prog 78 #[.int .u64 hi, .int .u64 lo, .int .u64 y] w fun e w' =>
      e = .returned (.tuple #[.int .u64 ((hi * 18446744073709551616 + lo) / y), .int .u64 ((hi * 18446744073709551616 + lo) % y)]) ∧ ∃ n, w' = w.drewN n := by
  by_cases hz : hi = 0
  · subst hz
    have y0 : (y == 0) = false := beq_eq_false_iff_ne.2 (by omega)
    go_enter Try.func78, Try.ntmps78
    go_wp2_with fail
    go_quiet (fail)
    go_wp2_with fail
    go_ret2
    exact ⟨by simp, _, rfl⟩
  · obtain ⟨hi, rfl⟩ := Int.eq_ofNat_of_zero_le h0
    obtain ⟨lo, rfl⟩ := Int.eq_ofNat_of_zero_le h3
    obtain ⟨y, rfl⟩ := Int.eq_ofNat_of_zero_le (show 0 ≤ y by omega)
    obtain ⟨s, s1, s2, s3, s4⟩ := bits_split y (by omega) (by omega)
    have hP : (2 : Int) ^ s = ((2 ^ s : Nat) : Int) := by simp
    have hR : (2 : Int) ^ (64 - s) = ((2 ^ (64 - s) : Nat) : Int) := by simp
    have hPR : 2 ^ (64 - s) * 2 ^ s = 18446744073709551616 := by rw [← Nat.pow_add, show 64 - s + s = 64 by omega]
    have p0 : 0 < 2 ^ s := Nat.pow_pos (by omega)
    have p1 : 0 < 2 ^ (64 - s) := Nat.pow_pos (by omega)
    have hor := num.or_apart hi (lo / 2 ^ (64 - s)) s
    obtain ⟨P, eP⟩ : ∃ P, P = 2 ^ s := ⟨_, rfl⟩
    obtain ⟨R, eR⟩ : ∃ R, R = 2 ^ (64 - s) := ⟨_, rfl⟩
    rw [← eP, ← eR] at hor
    rw [← eP] at hP hPR p0 s3 s4
    rw [← eR] at hR hPR p1
    have e1 : R * (lo / R) + lo % R = lo := Nat.div_add_mod lo R
    have e2 : lo % R < R := Nat.mod_lt _ p1
    obtain ⟨a, ea⟩ : ∃ a, a = lo / R := ⟨_, rfl⟩
    obtain ⟨b, eb⟩ : ∃ b, b = lo % R := ⟨_, rfl⟩
    rw [← ea, ← eb] at e1
    rw [← eb] at e2
    rw [← ea] at hor
    have haP : a < P := by
      refine Nat.lt_of_not_le fun h => ?_
      have := Nat.mul_le_mul_left R h
      omega
    have hbP : b * P < 18446744073709551616 := by rw [← hPR]; exact Nat.mul_lt_mul_of_pos_right e2 p0
    have hlo : lo * P = a * 18446744073709551616 + b * P := by
      rw [← e1, Nat.add_mul, ← hPR, Nat.mul_comm R a, Nat.mul_assoc]
    have huY : hi * P + a < y * P := by
      have : (hi + 1) * P ≤ y * P := Nat.mul_le_mul_right P (by omega)
      rw [Nat.add_mul, Nat.one_mul] at this
      omega
    have hor' := hor haP (by omega)
    obtain ⟨Y, eY⟩ : ∃ Y : Int, Y = ((y * P : Nat) : Int) := ⟨_, rfl⟩
    obtain ⟨u, eu⟩ : ∃ u : Int, u = ((hi * P + a : Nat) : Int) := ⟨_, rfl⟩
    obtain ⟨L, eL⟩ : ∃ L : Int, L = ((b * P : Nat) : Int) := ⟨_, rfl⟩
    obtain ⟨Q, eQ⟩ : ∃ Q : Int, (u * 4294967296 + L / 4294967296) / Y = Q := ⟨_, rfl⟩
    obtain ⟨d1, d2, d3, d4, d5, d6⟩ := dv.digit u (L / 4294967296) Y Q (by omega) (by omega) (by omega) (by omega) (by omega) eQ
    obtain ⟨u2, eu2⟩ : ∃ u2 : Int, u2 = u * 4294967296 + L / 4294967296 - Q * Y := ⟨_, rfl⟩
    obtain ⟨Q2, eQ2⟩ : ∃ Q2 : Int, (u2 * 4294967296 + L % 4294967296) / Y = Q2 := ⟨_, rfl⟩
    obtain ⟨f1, f2, f3, f4, f5, f6⟩ := dv.digit u2 (L % 4294967296) Y Q2 (by omega) (by omega) (by omega) (by omega) (by omega) eQ2
    obtain ⟨b4, eb4⟩ : ∃ b4 : Int, b4 = u2 * 4294967296 + L % 4294967296 - Q2 * Y := ⟨_, rfl⟩
    have hw (x : Int) : IntKind.u64.wrap x = x % 18446744073709551616 := IntKind.wrap_u64 x
    refine (Div64_core hi lo y w (by omega) (by omega) h2 h3 h4 s s1 (Lib.hid s2) Y (Y / 4294967296) (Y % 4294967296) ((hi * P : Nat) : Int) u L (L / 4294967296) (L % 4294967296) Q Q2
      (u * 4294967296 % 18446744073709551616) ((u * 4294967296 % 18446744073709551616 + L / 4294967296) % 18446744073709551616) (Q * Y % 18446744073709551616) u2
      (u2 * 4294967296 % 18446744073709551616) ((u2 * 4294967296 % 18446744073709551616 + L % 4294967296) % 18446744073709551616) (Q2 * Y % 18446744073709551616) b4 (b4 / 2 ^ s)
      ?_ rfl ?_ ?_ ?_ ?_ rfl ?_ (hw _) (hw _) (hw _) ?_ (hw _) (hw _) (hw _) ?_ rfl (by omega) (by omega) (by omega) (by omega) (by omega) (by omega) (by omega) (by omega) (by omega) (by omega)
      (by omega) (by omega) (by omega) (by omega) (by omega) (by omega) (by omega) (by omega) (Lib.hid (by omega)) (Lib.hid eQ) (Lib.hid eQ2)).mono ?_
    · rw [hw, hP, eY, ← Int.natCast_mul]; omega
    · exact num.and32 Y (by omega) (by omega)
    · rw [hw, hP, ← Int.natCast_mul]; omega
    · rw [hR, eu, ← Int.natCast_ediv, ← ea]; exact hor'
    · rw [hw, hP, eL, ← Int.natCast_mul, hlo]; omega
    · exact num.and32 L (by omega) (by omega)
    · rw [hw, eu2]; omega
    · rw [hw, eb4]; omega
    · rintro e w' ⟨rfl, rfl⟩
      have key : (hi * 18446744073709551616 + lo) * P = (Q * 4294967296 + Q2) * Y + b4 := by
        have h5 : ((lo * P : Nat) : Int) = a * 18446744073709551616 + L := by rw [hlo, eL]; simp
        have h6 : u = hi * P + a := by rw [eu]; simp
        rw [Int.natCast_mul] at h5
        rw [Int.add_mul, h5, Int.add_mul, Int.mul_right_comm Q, eb4]
        have h7 : (hi : Int) * 18446744073709551616 * P = (u - a) * 18446744073709551616 := by rw [h6, Int.mul_right_comm]; omega
        rw [h7]
        omega
      obtain ⟨g1, g2⟩ := dv.unscale (hi * 18446744073709551616 + lo) (Q * 4294967296 + Q2) y P Y b4 (by omega) (by omega) (by rw [eY]; simp) key (by omega) (by omega)
      exact ⟨by rw [hP, g1, g2], 0, rfl⟩

end Go.Proofs.Ytdlpemmoobbgnaa

namespace Go.Proofs.Ytdlpemmoobbgnaa
open Go.RowKit

/-- the number of m words from the place i on, the lowest first -/
def natFrom (f : Nat → Int) : Nat → Nat → Int
  | _, 0 => 0
  | i, m + 1 => f i + 18446744073709551616 * natFrom f (i + 1) m

/-- an integer as it stands: a sign and n words -/
structure Raw where
  neg : Bool
  n : Nat
  f : Nat → Int

def Raw.mag (r : Raw) : Int := natFrom r.f 0 r.n
def Raw.val (r : Raw) : Int := if r.neg then - r.mag else r.mag

/-- the value v reads as n numbers of kind k, f 0, f 1, .. -/
def RdA (k : IntKind) (w : World) (v : Value) (n : Nat) (f : Nat → Int) : Prop :=
  ∃ a cap, v = .slice a n cap ∧ n ≤ cap ∧ n ≤ 17592186044416 ∧ (0 < n → ∃ b o, a = some ⟨b, o, none⟩ ∧ ∀ i, i < n → w.cell? ⟨b, o + i, none⟩ = some (.int k (f i)))

/-- words are words -/
def Words (n : Nat) (f : Nat → Int) : Prop := ∀ i, i < n → 0 ≤ f i ∧ f i ≤ 18446744073709551615

def RdW (w : World) (v : Value) (n : Nat) (f : Nat → Int) : Prop := RdA .u64 w v n f ∧ Words n f

/-- the value v reads as the integer r -/
def RdI (w : World) (v : Value) (r : Raw) : Prop := ∃ m, v = .agg #[.bool r.neg, m] ∧ RdW w m r.n r.f

/-- the value v reads as n integers -/
def RdL (w : World) (v : Value) (n : Nat) (x : Nat → Raw) : Prop :=
  ∃ a cap, v = .slice a n cap ∧ n ≤ cap ∧ n ≤ 4398046511104 ∧ (0 < n → ∃ b o, a = some ⟨b, o, none⟩ ∧ ∀ i, i < n →
    ∃ m, w.cell? ⟨b, o + i * 2, none⟩ = some (.bool (x i).neg) ∧ w.cell? ⟨b, o + i * 2 + 1, none⟩ = some m ∧ RdW w m (x i).n (x i).f)

/-- the value v reads as a matrix, as it was handed in -/
def RdM (w : World) (v : Value) (rows cols : Int) (n : Nat) (x : Nat → Raw) : Prop :=
  ∃ s, v = .agg #[.int .i64 rows, .int .i64 cols, s] ∧ RdL w s n x

theorem cell_stays {w w' : World} (h : Below w.heap.size w w') {a : Addr} {v : Value} (hc : w.cell? a = some v) : w'.cell? a = some v := by
  rw [h.cell (World.block_lt_of_cell? w a hc)]; exact hc

theorem froz_stays {w w' : World} (h : Below w.heap.size w w') {a : Addr} {v : Value} (hc : w.cell? a = some v) (hf : w.frozen? a = false) : w'.frozen? a = false := by
  rw [h.frozen (World.block_lt_of_cell? w a hc)]; exact hf

theorem RdA.below {k : IntKind} {w w' : World} {v : Value} {n : Nat} {f : Nat → Int} (h : RdA k w v n f) (hb : Below w.heap.size w w') : RdA k w' v n f := by
  obtain ⟨a, cap, e, h1, h2, h3⟩ := h
  refine ⟨a, cap, e, h1, h2, fun hn => ?_⟩
  obtain ⟨b, o, e, h4⟩ := h3 hn
  exact ⟨b, o, e, fun i hi => cell_stays hb (h4 i hi)⟩

theorem RdW.below {w w' : World} {v : Value} {n : Nat} {f : Nat → Int} (h : RdW w v n f) (hb : Below w.heap.size w w') : RdW w' v n f := ⟨h.1.below hb, h.2⟩

theorem RdI.below {w w' : World} {v : Value} {r : Raw} (h : RdI w v r) (hb : Below w.heap.size w w') : RdI w' v r := by
  obtain ⟨m, e, h1⟩ := h
  exact ⟨m, e, h1.below hb⟩

theorem RdL.below {w w' : World} {v : Value} {n : Nat} {x : Nat → Raw} (h : RdL w v n x) (hb : Below w.heap.size w w') : RdL w' v n x := by
  obtain ⟨a, cap, e, h1, h2, h3⟩ := h
  refine ⟨a, cap, e, h1, h2, fun hn => ?_⟩
  obtain ⟨b, o, e, h4⟩ := h3 hn
  refine ⟨b, o, e, fun i hi => ?_⟩
  obtain ⟨m, c1, c2, c3⟩ := h4 i hi
  exact ⟨m, cell_stays hb c1, cell_stays hb c2, c3.below hb⟩

theorem RdM.below {w w' : World} {v : Value} {rows cols : Int} {n : Nat} {x : Nat → Raw} (h : RdM w v rows cols n x) (hb : Below w.heap.size w w') : RdM w' v rows cols n x := by
  obtain ⟨m, e, h1⟩ := h
  exact ⟨m, e, h1.below hb⟩

/-- a row of the call's own, or one that may be written: its cells, none of them frozen -/
def RowAt (k : IntKind) (w : World) (b o n : Nat) (f : Nat → Int) : Prop := ∀ i, i < n → w.cell? ⟨b, o + i, none⟩ = some (.int k (f i)) ∧ w.frozen? ⟨b, o + i, none⟩ = false

theorem RowAt.congr {k : IntKind} {w : World} {b o n : Nat} {f g : Nat → Int} (h : RowAt k w b o n f) (e : ∀ i, i < n → f i = g i) : RowAt k w b o n g :=
  fun i hi => by rw [← e i hi]; exact h i hi

theorem RowAt.get {k : IntKind} {w : World} {b o n : Nat} {f : Nat → Int} (h : RowAt k w b o n f) {i : Nat} (hi : i < n) {x : Int} (e : f i = x) :
    w.cell? ⟨b, o + i, none⟩ = some (.int k x) ∧ w.frozen? ⟨b, o + i, none⟩ = false := by rw [← e]; exact h i hi

theorem RowAt.block {k : IntKind} {w w' : World} {b o n : Nat} {f : Nat → Int} (h : RowAt k w b o n f) (e : w'.heap[b]? = w.heap[b]?) : RowAt k w' b o n f :=
  fun i hi => ⟨(World.cell?_of_block (w := w) (a := ⟨b, o + i, none⟩) e).trans (h i hi).1, (World.frozen?_of_block (w := w) (a := ⟨b, o + i, none⟩) e).trans (h i hi).2⟩

theorem RowAt.below {k : IntKind} {w w' : World} {b o n : Nat} {f : Nat → Int} (h : RowAt k w b o n f) (hb : Below w.heap.size w w') : RowAt k w' b o n f := by
  intro i hi
  have hlt := World.block_lt_of_cell? w _ (h i hi).1
  exact ⟨cell_stays hb (h i hi).1, (hb.frozen hlt).trans (h i hi).2⟩

theorem RowAt.set {k : IntKind} {w : World} {b o n : Nat} {f : Nat → Int} (h : RowAt k w b o n f) {j : Nat} (hj : j < n) (x : Int) :
    RowAt k (w.setCell ⟨b, o + j, none⟩ (.int k x)) b o n (fun i => if i = j then x else f i) := by
  intro i hi
  refine ⟨?_, by rw [World.frozen?_setCell]; exact (h i hi).2⟩
  show _ = some (Value.int k (if i = j then x else f i))
  by_cases e : i = j
  · subst e
    rw [if_pos rfl]
    exact World.cell?_setCell_same w _ _ (h i hi).1
  · rw [if_neg e, World.cell?_setCell_other w _ _ _ (by intro e'; injection e' with _ e2 _; omega)]
    exact (h i hi).1

theorem RowAt.other {k : IntKind} {w : World} {b o n : Nat} {f : Nat → Int} (h : RowAt k w b o n f) {a : Addr} (ha : a.block ≠ b) (x : Value) : RowAt k (w.setCell a x) b o n f := by
  refine h.block ?_
  exact heap_setCell_other w a b x (fun e => ha e.symm)

theorem RowAt.lt {k : IntKind} {w : World} {b o n : Nat} {f : Nat → Int} (h : RowAt k w b o n f) (hn : 0 < n) : b < w.heap.size := World.block_lt_of_cell? w _ (h 0 hn).1

/-- an owned row is a slice -/
theorem own_slice {w : World} {base : Nat} {e : TypeId} {size : Nat} {v : Value} {n : Nat} {xs : List Value} (h : w.ownsRow base e size v n xs) : ∃ a c, v = .slice a n c := by
  rcases h.2 with ⟨rfl, rfl⟩ | ⟨g, cap, cur, rfl, _⟩
  · exact ⟨none, 0, rfl⟩
  · exact ⟨_, _, rfl⟩
theorem own_block {w : World} {base : Nat} {e : TypeId} {size : Nat} {v : Value} {n : Nat} {xs : List Value} (h : w.ownsRow base e size v n xs) {b : Nat} (hb : b < base) : v.ownBlock = none ∨ v.ownBlock ≠ some b := by
  cases hv : v.ownBlock with
  | none => exact Or.inl rfl
  | some k => right; have := (h.lt k hv).1; intro e; injection e with e; omega

theorem gb_refl (w : World) (r : Option Nat) : w.grownBy w r := World.grownBy.refl w r
theorem gb_trans {w1 w2 w3 : World} {r : Option Nat} (h : w1.grownBy w2 r) (g : w2.grownBy w3 r) : w1.grownBy w3 r :=
  ⟨g.os.trans h.os, g.tape.trans h.tape, g.output.trans h.output, Nat.le_trans h.size g.size, fun k hk hr => (g.block k (Nat.lt_of_lt_of_le hk h.size) hr).trans (h.block k hk hr)⟩
theorem gb_set (w : World) (a : Addr) (v : Value) : w.grownBy (w.setCell a v) (some a.block) :=
  ⟨rfl, rfl, rfl, by simp [World.setCell], fun k _ hr => heap_setCell_other w a k v (fun e => hr (by rw [e]))⟩
theorem gb_drew (w : World) (r : Option Nat) : w.grownBy w.drew r := ⟨rfl, rfl, rfl, Nat.le_refl _, fun _ _ _ => rfl⟩
theorem gb_below {w w' : World} (h : Below w.heap.size w w') (r : Option Nat) : w.grownBy w' r := ⟨h.os, h.tape, h.output, h.size, fun k hk _ => h.block k hk⟩

theorem RowAt.gb {k : IntKind} {w w' : World} {b o n : Nat} {f : Nat → Int} (h : RowAt k w b o n f) {r : Option Nat} (hg : w.grownBy w' r) (hr : some b ≠ r) : RowAt k w' b o n f := by
  rcases Nat.eq_zero_or_pos n with rfl | hn
  · exact fun i hi => absurd hi (by omega)
  · exact h.block (hg.block b (h.lt hn) hr)

/-- n cells from the place o of block b on, none of them frozen -/
def CellsAt (w : World) (b o n : Nat) (F : Nat → Value) : Prop := ∀ i, i < n → w.cell? ⟨b, o + i, none⟩ = some (F i) ∧ w.frozen? ⟨b, o + i, none⟩ = false

/-- block b is a row of n cells of element type e -/
def Blk (w : World) (b n : Nat) (e : TypeId) : Prop := ∃ cur : Array Value, w.heap[b]? = some (.cells cur e (0, 0)) ∧ cur.size = n

theorem CellsAt.row {k : IntKind} {w : World} {b o n : Nat} {f : Nat → Int} (h : CellsAt w b o n fun i => .int k (f i)) : RowAt k w b o n f := h
theorem CellsAt.congr {w : World} {b o n : Nat} {F G : Nat → Value} (h : CellsAt w b o n F) (e : ∀ i, i < n → F i = G i) : CellsAt w b o n G := fun i hi => by rw [← e i hi]; exact h i hi
theorem CellsAt.get {w : World} {b o n : Nat} {F : Nat → Value} (h : CellsAt w b o n F) {i : Nat} (hi : i < n) {x : Value} (e : F i = x) : w.cell? ⟨b, o + i, none⟩ = some x ∧ w.frozen? ⟨b, o + i, none⟩ = false := by
  rw [← e]; exact h i hi
theorem CellsAt.lt {w : World} {b o n : Nat} {F : Nat → Value} (h : CellsAt w b o n F) (hn : 0 < n) : b < w.heap.size := World.block_lt_of_cell? w _ (h 0 hn).1
theorem CellsAt.block {w w' : World} {b o n : Nat} {F : Nat → Value} (h : CellsAt w b o n F) (e : w'.heap[b]? = w.heap[b]?) : CellsAt w' b o n F :=
  fun i hi => ⟨(World.cell?_of_block (w := w) (a := ⟨b, o + i, none⟩) e).trans (h i hi).1, (World.frozen?_of_block (w := w) (a := ⟨b, o + i, none⟩) e).trans (h i hi).2⟩
theorem CellsAt.grown {w w' : World} {b o n : Nat} {F : Nat → Value} (h : CellsAt w b o n F) {r : Option Nat} (hg : w.grownBy w' r) (hr : some b ≠ r) : CellsAt w' b o n F := by
  rcases Nat.eq_zero_or_pos n with rfl | hn
  · exact fun i hi => absurd hi (by omega)
  · exact h.block (hg.block b (h.lt hn) hr)
theorem CellsAt.set {w : World} {b o n : Nat} {F : Nat → Value} (h : CellsAt w b o n F) {j : Nat} (hj : j < n) (x : Value) :
    CellsAt (w.setCell ⟨b, o + j, none⟩ x) b o n (fun i => if i = j then x else F i) := by
  intro i hi
  refine ⟨?_, by rw [World.frozen?_setCell]; exact (h i hi).2⟩
  show _ = some (if i = j then x else F i)
  by_cases e : i = j
  · subst e
    rw [if_pos rfl]
    exact World.cell?_setCell_same w _ _ (h i hi).1
  · rw [if_neg e, World.cell?_setCell_other w _ _ _ (by intro e'; injection e' with _ e2 _; omega)]
    exact (h i hi).1
theorem CellsAt.other {w : World} {b o n : Nat} {F : Nat → Value} (h : CellsAt w b o n F) {a : Addr} (ha : a.block ≠ b) (x : Value) : CellsAt (w.setCell a x) b o n F :=
  h.block (heap_setCell_other w a b x (fun e => ha e.symm))

theorem CellsAt.get0 {w : World} {b n : Nat} {F : Nat → Value} (h : CellsAt w b 0 n F) {i : Nat} (hi : i < n) {x : Value} (e : F i = x) : w.cell? ⟨b, i, none⟩ = some x ∧ w.frozen? ⟨b, i, none⟩ = false := by
  have := h i hi; rw [Nat.zero_add] at this; rw [← e]; exact this
theorem RowAt.get0 {k : IntKind} {w : World} {b n : Nat} {f : Nat → Int} (h : RowAt k w b 0 n f) {i : Nat} (hi : i < n) {x : Int} (e : f i = x) : w.cell? ⟨b, i, none⟩ = some (.int k x) ∧ w.frozen? ⟨b, i, none⟩ = false := by
  have := h i hi; rw [Nat.zero_add] at this; rw [← e]; exact this
theorem RowAt.set0 {k : IntKind} {w : World} {b n : Nat} {f : Nat → Int} (h : RowAt k w b 0 n f) {j : Nat} (hj : j < n) (x : Int) :
    RowAt k (w.setCell ⟨b, j, none⟩ (.int k x)) b 0 n (fun i => if i = j then x else f i) := by
  have := h.set hj x; rwa [Nat.zero_add] at this
theorem CellsAt.set0 {w : World} {b n : Nat} {F : Nat → Value} (h : CellsAt w b 0 n F) {j : Nat} (hj : j < n) (x : Value) :
    CellsAt (w.setCell ⟨b, j, none⟩ x) b 0 n (fun i => if i = j then x else F i) := by
  have := h.set hj x; rwa [Nat.zero_add] at this

theorem Blk.lt {w : World} {b n : Nat} {e : TypeId} (h : Blk w b n e) : b < w.heap.size := by obtain ⟨cur, h, _⟩ := h; exact lt_of_block h
theorem Blk.grown {w w' : World} {b n : Nat} {e : TypeId} (h : Blk w b n e) {r : Option Nat} (hg : w.grownBy w' r) (hr : some b ≠ r) : Blk w' b n e := by
  have hl := h.lt
  obtain ⟨cur, h, hs⟩ := h
  exact ⟨cur, (hg.block b hl hr).trans h, hs⟩
theorem Blk.set {w : World} {b n : Nat} {e : TypeId} (h : Blk w b n e) (i : Nat) (x : Value) : Blk (w.setCell ⟨b, i, none⟩ x) b n e := by
  obtain ⟨cur, h, hs⟩ := h
  refine ⟨cur.setIfInBounds i x, heap_setCell_same w b i cur e x h, by simpa using hs⟩
theorem Blk.other {w : World} {b n : Nat} {e : TypeId} (h : Blk w b n e) {a : Addr} (ha : a.block ≠ b) (x : Value) : Blk (w.setCell a x) b n e :=
  h.grown (gb_set w a x) (fun e => ha (Option.some.inj e).symm)

/-- a block just made -/
theorem Blk.made (w : World) (z : Value) (n : Nat) (e : TypeId) : Blk (w.alloc (.cells (madeCells #[z] n) e)) w.heap.size n e :=
  ⟨madeCells #[z] n, heap_alloc_new w _, by simp [madeCells]⟩
theorem CellsAt.made (w : World) (z : Value) (n : Nat) (e : TypeId) : CellsAt (w.alloc (.cells (madeCells #[z] n) e)) w.heap.size 0 n (fun _ => z) := by
  intro i hi
  have h := heap_alloc_new w (.cells (madeCells #[z] n) e)
  refine ⟨?_, ?_⟩
  · rw [Nat.zero_add, cell_of_row _ _ _ _ _ _ h]
    simp [madeCells, hi, Nat.mod_one]
  · unfold World.frozen?
    rw [show (⟨w.heap.size, 0 + i, none⟩ : Addr).block = w.heap.size from rfl, h]
    simp

/-- a block whose cells are known as a list -/
theorem cells_list {w : World} {b n : Nat} {e : TypeId} {F : Nat → Value} (h : w.heap[b]? = some (.cells ((List.range n).map F).toArray e (0, 0))) : Blk w b n e ∧ CellsAt w b 0 n F := by
  refine ⟨⟨_, h, by simp⟩, fun i hi => ⟨?_, ?_⟩⟩
  · rw [Nat.zero_add, cell_of_row _ _ _ _ _ _ h]; simp [hi]
  · unfold World.frozen?
    rw [show (⟨b, 0 + i, none⟩ : Addr).block = b from rfl, h]; simp

/-- fresh numbers: a slice of n numbers of kind k in a block of its own, from base on -/
def FrA (k : IntKind) (e : TypeId) (w : World) (base : Nat) (v : Value) (n : Nat) (f : Nat → Int) : Prop :=
  (v = .slice none 0 0 ∧ n = 0) ∨ ∃ b cap, v = .slice (some ⟨b, 0, none⟩) n cap ∧ n ≤ cap ∧ n ≤ 17592186044416 ∧ base ≤ b ∧ Blk w b cap e ∧ RowAt k w b 0 n f

theorem FrA.read {k : IntKind} {e : TypeId} {w : World} {base : Nat} {v : Value} {n : Nat} {f : Nat → Int} (h : FrA k e w base v n f) : RdA k w v n f := by
  rcases h with ⟨rfl, rfl⟩ | ⟨b, cap, rfl, h1, h2, _, _, h3⟩
  · exact ⟨none, 0, rfl, Nat.le_refl _, by omega, fun h => absurd h (by omega)⟩
  · exact ⟨_, cap, rfl, h1, h2, fun _ => ⟨b, 0, rfl, fun i hi => (h3 i hi).1⟩⟩
theorem FrA.grown {k : IntKind} {e : TypeId} {w w' : World} {base : Nat} {v : Value} {n : Nat} {f : Nat → Int} (h : FrA k e w base v n f) {r : Option Nat} (hg : w.grownBy w' r) (hr : v.ownBlock = none ∨ v.ownBlock ≠ r) : FrA k e w' base v n f := by
  rcases h with ⟨rfl, rfl⟩ | ⟨b, cap, rfl, h1, h2, h3, h4, h5⟩
  · exact Or.inl ⟨rfl, rfl⟩
  · have hr' : some b ≠ r := by simpa [Value.ownBlock] using hr
    exact Or.inr ⟨b, cap, rfl, h1, h2, h3, h4.grown hg hr', h5.gb hg hr'⟩
theorem FrA.below {k : IntKind} {e : TypeId} {w w' : World} {base : Nat} {v : Value} {n : Nat} {f : Nat → Int} (h : FrA k e w base v n f) (hb : Below w.heap.size w w') : FrA k e w' base v n f :=
  h.grown (gb_below hb none) (by cases v.ownBlock <;> simp)
theorem FrA.mono {k : IntKind} {e : TypeId} {w : World} {base base' : Nat} {v : Value} {n : Nat} {f : Nat → Int} (h : FrA k e w base v n f) (hb : base' ≤ base) : FrA k e w base' v n f := by
  rcases h with h | ⟨b, cap, rfl, h1, h2, h3, h4, h5⟩
  · exact Or.inl h
  · exact Or.inr ⟨b, cap, rfl, h1, h2, Nat.le_trans hb h3, h4, h5⟩
theorem FrA.congr {k : IntKind} {e : TypeId} {w : World} {base : Nat} {v : Value} {n : Nat} {f g : Nat → Int} (h : FrA k e w base v n f) (hg : ∀ i, i < n → f i = g i) : FrA k e w base v n g := by
  rcases h with h | ⟨b, cap, rfl, h1, h2, h3, h4, h5⟩
  · exact Or.inl h
  · exact Or.inr ⟨b, cap, rfl, h1, h2, h3, h4, h5.congr hg⟩

end Go.Proofs.Ytdlpemmoobbgnaa

namespace Go.Proofs.Ytdlpemmoobbgnaa.md

theorem mul_l (a b p : Int) : (a % p * b) % p = (a * b) % p := by rw [Int.mul_emod, Int.emod_emod_of_dvd a (Int.dvd_refl p), ← Int.mul_emod]
theorem mul_r (a b p : Int) : (a * (b % p)) % p = (a * b) % p := by rw [Int.mul_emod, Int.emod_emod_of_dvd b (Int.dvd_refl p), ← Int.mul_emod]
theorem pow_m (x p : Int) : ∀ k : Nat, (x % p) ^ k % p = x ^ k % p
  | 0 => by rw [Int.pow_zero, Int.pow_zero]
  | k + 1 => by rw [Int.pow_succ, Int.pow_succ, Int.mul_emod, pow_m x p k, Int.emod_emod_of_dvd x (Int.dvd_refl p), ← Int.mul_emod]

theorem odd_step (a c p : Int) (m : Nat) (h : m % 2 = 1) : (a * c % p * (c * c % p) ^ (m / 2)) % p = (a * c ^ m) % p := by
  have e : a * c ^ m = a * c * (c * c) ^ (m / 2) := by
    have : m = 2 * (m / 2) + 1 := by omega
    conv => lhs; rw [this, Int.pow_succ, Int.pow_mul, Int.pow_succ, Int.pow_succ, Int.pow_zero, Int.one_mul]
    rw [Int.mul_comm _ c, ← Int.mul_assoc]
  rw [e, mul_l, ← mul_r, pow_m, mul_r]

theorem even_step (a c p : Int) (m : Nat) (h : m % 2 = 0) : (a * (c * c % p) ^ (m / 2)) % p = (a * c ^ m) % p := by
  have e : c ^ m = (c * c) ^ (m / 2) := by
    have : m = 2 * (m / 2) := by omega
    conv => lhs; rw [this, Int.pow_mul, Int.pow_succ, Int.pow_succ, Int.pow_zero, Int.one_mul]
  rw [e, ← mul_r, pow_m, mul_r]

theorem prod_bd (a b p : Int) (a0 : 0 ≤ a) (a1 : a < p) (b0 : 0 ≤ b) (b1 : b < p) (hp : p < 2147483648) : 0 ≤ a * b ∧ a * b ≤ 4611686014132420609 := by
  refine ⟨Int.mul_nonneg a0 b0, ?_⟩
  have := Int.mul_le_mul (show a ≤ 2147483647 by omega) (show b ≤ 2147483647 by omega) b0 (by omega)
  omega

theorem mod_bd (a p : Int) (hp : 1 ≤ p) : 0 ≤ a % p ∧ a % p < p := ⟨Int.emod_nonneg _ (by omega), Int.emod_lt_of_pos _ (by omega)⟩

end Go.Proofs.Ytdlpemmoobbgnaa.md

namespace Go.Proofs.Ytdlpemmoobbgnaa
open Go.RowKit

/-- the residue of an integer -/
def resid (r : Raw) (p : Int) : Int := if r.neg = true ∧ 0 < r.mag % p then p - r.mag % p else r.mag % p

theorem ret_u64 {a b : Int} (h : a = b) : Ending.returned (.int .u64 a) = .returned (.int .u64 b) := by rw [h]

theorem horner (x y p : Int) : (x % p * 18446744073709551616 + y) % p = (y + 18446744073709551616 * x) % p := by
  rw [Int.mul_comm 18446744073709551616 x, Int.add_comm y, Int.add_emod, Int.mul_emod, Int.emod_emod_of_dvd x (Int.dvd_refl p), ← Int.mul_emod, ← Int.add_emod]

set_option maxHeartbeats 1000000 in
theorem residue_any (p : Int) (h1 : 1 ≤ p) (h2 : p < 2147483648) (v : Value) (r : Raw) (w : World) (hr : RdI w v r) :
    Calls Try.prog 55 #[.int .u64 p, v] w fun e w' => e = .returned (.int .u64 (resid r p)) ∧ Below w.heap.size w w' := by
  obtain ⟨m, rfl, ⟨a, cap, rfl, g1, g2, g3⟩, g4⟩ := hr
  obtain ⟨neg, n, f⟩ := r
  simp only at g1 g2 g3 g4 ⊢
  have n0 : 0 ≤ (n : Int) := by omega
  have n1 : (n : Int) ≤ 17592186044416 := by omega
  have G3 := Lib.hid g3
  have G4 := Lib.hid g4
  clear g3 g4 g1 g2
  go_enter Try.func55, Try.ntmps55
  go_wp2_with fail
  go_loopw [5, 6] (fun r i wr => ∃ m : Nat, m ≤ n ∧ r = .int .u64 (natFrom f m (n - m) % p) ∧ i = .int .i64 ((m : Int) - 1) ∧ Below w.heap.size w wr ∧
      wr.cell? ⟨w.heap.size, 0, none⟩ = some (.bool neg) ∧ wr.cell? ⟨w.heap.size, 1, none⟩ = some (.slice a n cap))
    (fun _ i _ => (intOf i + 1).toNat)
  case atStart => exact ⟨n, Nat.le_refl _, by rw [Nat.sub_self]; rfl, rfl, (Below.refl _ _).alloc (Nat.le_refl _) _, by go_simp, by go_simp⟩
  case round =>
    obtain ⟨m, hm, rfl, rfl, hb, x0, x1⟩ := hrel
    have p0 := Int.emod_nonneg (natFrom f m (n - m)) (show p ≠ 0 by omega)
    have p1 := Int.emod_lt_of_pos (natFrom f m (n - m)) (show 0 < p by omega)
    obtain ⟨q, hq⟩ : ∃ q, q = natFrom f m (n - m) % p := ⟨_, rfl⟩
    rw [← hq] at p0 p1 ⊢
    have HQ := Lib.hid hq
    clear hq
    rcases m with _ | j
    · go_wp2_with fail
      all_goals go_ret
      all_goals refine ⟨ret_u64 ?_, below_drewN hb 0⟩
      all_goals (have hq : Raw.mag ⟨neg, n, f⟩ % p = q := HQ.out.symm; unfold resid; rw [hq]; simp_all)
      all_goals omega
    · obtain ⟨b, o, ha, hc⟩ := G3.out (by omega)
      subst ha
      have hj : j < n := by omega
      have c1 := cell_stays hb (hc j hj)
      obtain ⟨c2, c3⟩ := G4.out j hj
      clear hc
      obtain ⟨x, hx⟩ : ∃ x, x = f j := ⟨_, rfl⟩
      rw [← hx] at c1 c2 c3
      have HX := Lib.hid hx
      clear hx
      go_wp2_with (go_at_call 78; refine (Div64_any q x p _ p0 p1 (by omega) c2 c3).mono ?_; rintro e w' ⟨rfl, nn, rfl⟩)
      go_roundw
      case rel => 
        refine ⟨j, by omega, ?_, by go_num, below_drewN hb _, by simpa using x0, by simpa using x1⟩
        rw [HQ.out, HX.out, horner, show n - j = (n - (j + 1)) + 1 by omega]; rfl
      case measure => simp [intOf]
/-- what inverse answers -/
def invm (p x : Int) : Int := x ^ (p - 2).toNat % p

set_option maxHeartbeats 1000000 in
theorem inverse_any (p x : Int) (h1 : 2 ≤ p) (h2 : p < 2147483648) (x0 : 0 ≤ x) (x1 : x < p) (w : World) :
    Calls Try.prog 73 #[.int .u64 p, .int .u64 x] w fun e w' => e = .returned (.int .u64 (invm p x)) ∧ w = w' := by
  go_enter Try.func73, Try.ntmps73
  go_wp2_with fail
  go_loop [1, 5, 6] (fun c y e => ∃ (a b : Int) (m : Nat), 0 ≤ a ∧ a < p ∧ 0 ≤ b ∧ b < p ∧ (m : Int) < 2147483648 ∧ Hid (a * b ^ m % p = invm p x) ∧ c = .int .u64 b ∧ y = .int .u64 a ∧ e = .int .u64 m)
    (fun _ _ e => (intOf e).toNat)
  case atStart => exact ⟨1, x, (p - 2).toNat, by omega, by omega, x0, x1, by omega, by rw [Int.one_mul]; rfl, rfl, rfl, by congr 1; omega⟩
  case round =>
    obtain ⟨a, b, m, a0, a1, b0, b1, m1, hm, rfl, rfl, rfl⟩ := hrel
    obtain ⟨q1, q2⟩ := md.prod_bd a b p a0 a1 b0 b1 h2
    obtain ⟨s1, s2⟩ := md.prod_bd b b p b0 b1 b0 b1 h2
    obtain ⟨t1, t2⟩ := md.mod_bd (a * b) p (by omega)
    obtain ⟨u1, u2⟩ := md.mod_bd (b * b) p (by omega)
    rcases Nat.eq_zero_or_pos m with rfl | hj
    · go_wp2_with fail
      go_ret
      exact ⟨ret_u64 (by rw [← hm.out, Int.pow_zero, Int.mul_one, Int.emod_eq_of_lt a0 a1]), rfl⟩
    · have hj' : 0 < (m : Int) := by omega
      by_cases ho : m % 2 = 1
      · have hb : ((m : Int) % 2 == 1) = true := beq_iff_eq.2 (by omega)
        have HO := Lib.hid ho
        clear ho
        go_wp2_with fail
        go_round
        case rel => exact ⟨a * b % p, b * b % p, m / 2, t1, t2, u1, u2, by omega, by show _ = _; rw [md.odd_step a b p _ HO.out]; exact hm.out, rfl, rfl, by congr 1⟩
        case measure => simp [intOf]; omega
      · have hb : ((m : Int) % 2 == 1) = false := beq_eq_false_iff_ne.2 (by omega)
        have HO := Lib.hid ho
        clear ho
        go_wp2_with fail
        go_round
        case rel => exact ⟨a, b * b % p, m / 2, a0, a1, u1, u2, by omega, by show _ = _; rw [md.even_step a b p _ (by have := HO.out; omega)]; exact hm.out, rfl, rfl, by congr 1⟩
        case measure => simp [intOf]; omega

set_option maxHeartbeats 1000000 in
theorem scale_any (p x : Int) (h1 : 1 ≤ p) (h2 : p < 2147483648) (x0 : 0 ≤ x) (x1 : x < p) (b o n cap s : Nat) (f : Nat → Int) (hn : n ≤ 17592186044416) (hs : s ≤ n)
    (hf : ∀ i, i < n → 0 ≤ f i ∧ f i < p) (w : World) (hr : RowAt .u64 w b o n f) :
    Calls Try.prog 72 #[.int .u64 p, .slice (some ⟨b, o, none⟩) n cap, .int .u64 x, .int .i64 s] w fun e w' =>
      e = .returned (.tuple #[]) ∧ RowAt .u64 w' b o n (fun i => if s ≤ i then f i * x % p else f i) ∧ w.grownBy w' (some b) := by
  have HF := Lib.hid hf
  clear hf
  go_enter Try.func72, Try.ntmps72
  go_wp2_with fail
  go_loopw [8] (fun i wr => ∃ j : Nat, s ≤ j ∧ j ≤ n ∧ i = .int .i64 j ∧ RowAt .u64 wr b o n (fun i => if s ≤ i ∧ i < j then f i * x % p else f i) ∧ w.grownBy wr (some b))
    (fun i _ => n - (intOf i).toNat)
  case atStart => exact ⟨s, Nat.le_refl _, hs, rfl, hr.congr fun i _ => by rw [if_neg (by omega)], gb_refl _ _⟩
  case round =>
    obtain ⟨j, j0, j1, rfl, hj, hg⟩ := hrel
    by_cases hjn : j < n
    · obtain ⟨f0, f1⟩ := HF.out j hjn
      obtain ⟨y, hy⟩ : ∃ y, y = f j := ⟨_, rfl⟩
      obtain ⟨c1, c2⟩ := hj.get hjn (x := y) ((if_neg (by omega)).trans hy.symm)
      rw [← hy] at f0 f1
      obtain ⟨q1, q2⟩ := md.prod_bd y x p f0 f1 x0 x1 h2
      have HY := Lib.hid hy
      have HJ := Lib.hid hj
      clear hy hj
      go_wp2_with fail
      go_roundw
      case rel =>
        refine ⟨j + 1, by omega, by omega, by go_num, (HJ.out.set hjn _).congr fun i hi => ?_, gb_trans hg (gb_set _ _ _)⟩
        by_cases e : i = j
        · rw [if_pos e, if_pos (by omega), e, HY.out]
        · rw [if_neg e]
          by_cases e2 : s ≤ i ∧ i < j
          · rw [if_pos e2, if_pos (by omega)]
          · rw [if_neg e2, if_neg (by omega)]
      case measure => simp [intOf]; omega
    · have HJ := Lib.hid hj
      clear hj
      go_wp2_with fail
      go_end0
      refine ⟨rfl, HJ.out.congr fun i hi => ?_, hg⟩
      by_cases e2 : s ≤ i
      · rw [if_pos e2, if_pos (by omega)]
      · rw [if_neg e2, if_neg (by omega)]

end Go.Proofs.Ytdlpemmoobbgnaa

namespace Go.Proofs.Ytdlpemmoobbgnaa
open Go.RowKit

/-- two places exchanged -/
def sw (i j k : Nat) : Nat := if k = i then j else if k = j then i else k

theorem sw_lt {i j k m : Nat} (hi : i < m) (hj : j < m) (hk : k < m) : sw i j k < m := by unfold sw; (repeat' split) <;> omega
theorem sw_inj {i j k l : Nat} (h : sw i j k = sw i j l) : k = l := by
  unfold sw at h
  (repeat' split at h) <;> omega

theorem sw_self (i k : Nat) : sw i i k = k := by unfold sw; (repeat' split) <;> omega

/-- rows of n numbers of kind k: the grid's own cells lie in the block gb from go on, row i in the block B i from O i on, with the capacity C i -/
structure GridAt (k : IntKind) (w : World) (base gb go m n : Nat) (B O C : Nat → Nat) (G : Nat → Nat → Int) : Prop where
  cells : ∀ i, i < m → w.cell? ⟨gb, go + i, none⟩ = some (.slice (some ⟨B i, O i, none⟩) n (C i)) ∧ w.frozen? ⟨gb, go + i, none⟩ = false
  rows : ∀ i, i < m → RowAt k w (B i) (O i) n (G i)
  apart : ∀ i j, i < m → j < m → B i = B j → i = j
  off : ∀ i, i < m → B i ≠ gb
  caps : ∀ i, i < m → n ≤ C i ∧ n ≤ 17592186044416
  own : ∀ i, i < m → base ≤ B i
  ownG : base ≤ gb
  lt : ∀ i, i < m → B i < w.heap.size

variable {k : IntKind} {w w' : World} {base gb go m n : Nat} {B O C : Nat → Nat} {G : Nat → Nat → Int}

theorem GridAt.congr (h : GridAt k w base gb go m n B O C G) {G' : Nat → Nat → Int} (e : ∀ i j, i < m → j < n → G i j = G' i j) : GridAt k w base gb go m n B O C G' :=
  { h with rows := fun i hi => (h.rows i hi).congr fun j hj => e i j hi hj }

theorem GridAt.grown (h : GridAt k w base gb go m n B O C G) {r : Option Nat} (hg : w.grownBy w' r) (h1 : some gb ≠ r) (h2 : ∀ i, i < m → some (B i) ≠ r) : GridAt k w' base gb go m n B O C G :=
  { h with
    cells := fun i hi => by
      have hlt := World.block_lt_of_cell? w _ (h.cells i hi).1
      exact ⟨(World.cell?_of_block (w := w) (a := ⟨gb, go + i, none⟩) (hg.block gb hlt h1)).trans (h.cells i hi).1, (World.frozen?_of_block (w := w) (a := ⟨gb, go + i, none⟩) (hg.block gb hlt h1)).trans (h.cells i hi).2⟩
    rows := fun i hi => (h.rows i hi).gb hg (h2 i hi)
    lt := fun i hi => Nat.lt_of_lt_of_le (h.lt i hi) hg.size }

theorem GridAt.below (h : GridAt k w base gb go m n B O C G) (hb : Below w.heap.size w w') : GridAt k w' base gb go m n B O C G :=
  h.grown (gb_below hb none) (by simp) (fun _ _ => by simp)

theorem GridAt.drew (h : GridAt k w base gb go m n B O C G) : GridAt k w.drew base gb go m n B O C G := h.grown (gb_drew w none) (by simp) (fun _ _ => by simp)

theorem GridAt.ltG (h : GridAt k w base gb go m n B O C G) (hm : 0 < m) : gb < w.heap.size := World.block_lt_of_cell? w _ (h.cells 0 hm).1

/-- one row has been written over -/
theorem GridAt.upd (h : GridAt k w base gb go m n B O C G) {i : Nat} (hi : i < m) {f : Nat → Int} (hf : RowAt k w' (B i) (O i) n f) (hg : w.grownBy w' (some (B i))) :
    GridAt k w' base gb go m n B O C (fun l c => if l = i then f c else G l c) :=
  { h with
    cells := fun l hl => by
      have hlt := World.block_lt_of_cell? w _ (h.cells l hl).1
      have hne : some gb ≠ some (B i) := fun e => h.off i hi (Option.some.inj e).symm
      exact ⟨(World.cell?_of_block (w := w) (a := ⟨gb, go + l, none⟩) (hg.block gb hlt hne)).trans (h.cells l hl).1, (World.frozen?_of_block (w := w) (a := ⟨gb, go + l, none⟩) (hg.block gb hlt hne)).trans (h.cells l hl).2⟩
    rows := fun l hl => by
      by_cases e : l = i
      · subst e
        exact hf.congr fun c _ => (if_pos rfl).symm
      · refine ((h.rows l hl).gb hg fun e' => e (h.apart l i hl hi (Option.some.inj e'))).congr fun c _ => (if_neg e).symm
    lt := fun i hi => Nat.lt_of_lt_of_le (h.lt i hi) hg.size }

/-- two rows have been exchanged -/
theorem GridAt.swap (h : GridAt k w base gb go m n B O C G) {i j : Nat} (hi : i < m) (hj : j < m)
    (hw : w' = (w.setCell ⟨gb, go + i, none⟩ (.slice (some ⟨B j, O j, none⟩) n (C j))).setCell ⟨gb, go + j, none⟩ (.slice (some ⟨B i, O i, none⟩) n (C i))) :
    GridAt k w' base gb go m n (fun l => B (sw i j l)) (fun l => O (sw i j l)) (fun l => C (sw i j l)) (fun l => G (sw i j l)) := by
  subst hw
  refine ⟨fun l hl => ?_, fun l hl => ?_, fun a b ha hb e => sw_inj (h.apart _ _ (sw_lt hi hj ha) (sw_lt hi hj hb) e), fun l hl => h.off _ (sw_lt hi hj hl), fun l hl => h.caps _ (sw_lt hi hj hl), fun l hl => h.own _ (sw_lt hi hj hl), h.ownG, fun l hl => by simpa using h.lt _ (sw_lt hi hj hl)⟩
  · refine ⟨?_, by rw [World.frozen?_setCell, World.frozen?_setCell]; exact (h.cells l hl).2⟩
    by_cases e1 : l = j
    · subst e1
      have : sw i l l = i := by unfold sw; split <;> simp_all
      rw [this]
      by_cases e2 : i = l
      · subst e2
        exact World.cell?_setCell_same _ _ _ (World.cell?_setCell_same _ _ _ (h.cells i hi).1)
      · refine World.cell?_setCell_same _ _ _ (u := .slice (some ⟨B l, O l, none⟩) n (C l)) ?_
        rw [World.cell?_setCell_other _ _ _ _ (by intro e'; injection e' with _ e3 _; omega)]
        exact (h.cells l hl).1
    · rw [World.cell?_setCell_other _ _ _ _ (by intro e'; injection e' with _ e3 _; omega)]
      by_cases e2 : l = i
      · subst e2
        have : sw l j l = j := by unfold sw; simp
        rw [this]
        exact World.cell?_setCell_same _ _ _ (h.cells l hl).1
      · have : sw i j l = l := by unfold sw; simp [e1, e2]
        rw [this, World.cell?_setCell_other _ _ _ _ (by intro e'; injection e' with _ e3 _; omega)]
        exact (h.cells l hl).1
  · have hl' := sw_lt hi hj hl
    have ho := h.off _ hl'
    exact ((h.rows _ hl').other (a := ⟨gb, go + i, none⟩) (fun e => ho e.symm) _).other (a := ⟨gb, go + j, none⟩) (fun e => ho e.symm) _

end Go.Proofs.Ytdlpemmoobbgnaa

namespace Go.Proofs.Ytdlpemmoobbgnaa
open Go.RowKit

theorem infoW : (Try.prog.info? 22).map (fun i => (i.zero, i.size, i.bytes)) = some (some (.int .u64 0), 1, 8) := by kernel_rfl
theorem infoWs : (Try.prog.info? 54).map (fun i => (i.zero, i.size, i.bytes)) = some (some (.slice none 0 0), 1, 24) := by kernel_rfl

theorem mk_words (n : Nat) (hn : n ≤ 17592186044416) (u : World) : (Instr.makeSlice 54 (.int .i64 n) (.int .i64 n)).run Try.prog u =
    .ok (.slice (some ⟨u.heap.size, 0, none⟩) n n) (u.alloc (.cells (madeCells #[.int .u64 0] n) 22)) := by
  obtain ⟨i0, hi, hz0, hz1, hz2⟩ := info_parts infoW
  have h := run_make (P := Try.prog) u 54 22 i0 (.int .u64 0) Try.underlying54 hi hz0 .i64 .i64 (n : Int) (n : Int) (by omega) (Int.le_refl _) (by rw [hz2]; omega) (by omega)
  simpa [hz1, Value.cells] using h

theorem mk_grid (n : Nat) (hn : n ≤ 1048576) (u : World) : (Instr.makeSlice 76 (.int .i64 n) (.int .i64 n)).run Try.prog u =
    .ok (.slice (some ⟨u.heap.size, 0, none⟩) n n) (u.alloc (.cells (madeCells #[.slice none 0 0] n) 54)) := by
  obtain ⟨i0, hi, hz0, hz1, hz2⟩ := info_parts infoWs
  have h := run_make (P := Try.prog) u 76 54 i0 (.slice none 0 0) Try.underlying76 hi hz0 .i64 .i64 (n : Int) (n : Int) (by omega) (Int.le_refl _) (by rw [hz2]; omega) (by omega)
  simpa [hz1, Value.cells] using h

/-- a grid of the call's own that is being filled: c of its cells lead to rows, r of them stand -/
structure Part (k : IntKind) (e E : TypeId) (w : World) (base gb m n : Nat) (B : Nat → Nat) (G : Nat → Nat → Int) (c r : Nat) : Prop where
  blk : Blk w gb m E
  cells : CellsAt w gb 0 m (fun i => if i < c then .slice (some ⟨B i, 0, none⟩) n n else .slice none 0 0)
  rows : ∀ i, i < r → Blk w (B i) n e ∧ RowAt k w (B i) 0 n (G i)
  apart : ∀ i j, i < r → j < r → B i = B j → i = j
  off : ∀ i, i < r → B i ≠ gb
  own : ∀ i, i < r → base ≤ B i
  ownG : base ≤ gb

section
variable {k : IntKind} {e E : TypeId} {w w' : World} {base gb m n c r : Nat} {B : Nat → Nat} {G : Nat → Nat → Int}
theorem Part.lt (h : Part k e E w base gb m n B G c r) (i : Nat) (hi : i < r) : B i < w.heap.size := (h.rows i hi).1.lt
theorem Part.grown (h : Part k e E w base gb m n B G c r) {q : Option Nat} (hg : w.grownBy w' q) (h1 : some gb ≠ q) (h2 : ∀ i, i < r → some (B i) ≠ q) : Part k e E w' base gb m n B G c r :=
  { h with blk := h.blk.grown hg h1, cells := h.cells.grown hg h1, rows := fun i hi => ⟨(h.rows i hi).1.grown hg (h2 i hi), (h.rows i hi).2.gb hg (h2 i hi)⟩ }
theorem Part.below (h : Part k e E w base gb m n B G c r) (hb : Below w.heap.size w w') : Part k e E w' base gb m n B G c r :=
  h.grown (gb_below hb none) (by simp) (fun _ _ => by simp)

/-- nothing of it stands yet -/
theorem Part.start (w : World) (base m n : Nat) (hb : base ≤ w.heap.size) : Part k e E (w.alloc (.cells (madeCells #[.slice none 0 0] m) E)) base w.heap.size m n B G 0 0 :=
  ⟨Blk.made w _ m E, (CellsAt.made w _ m E).congr fun i _ => by rw [if_neg (by omega)], fun i h => absurd h (by omega), fun i _ h => absurd h (by omega), fun i h => absurd h (by omega), fun i h => absurd h (by omega), hb⟩

/-- one more row has been made, and stands in the grid, empty yet -/
theorem Part.next (h : Part k e E w base gb m n B G r r) (hr : r < m) (z : Value) (hb : base ≤ w.heap.size) :
    Part k e E ((w.alloc (.cells (madeCells #[z] n) e)).setCell ⟨gb, r, none⟩ (.slice (some ⟨w.heap.size, 0, none⟩) n n)) base gb m n (fun i => if i = r then w.heap.size else B i) G (r + 1) r ∧
    Blk ((w.alloc (.cells (madeCells #[z] n) e)).setCell ⟨gb, r, none⟩ (.slice (some ⟨w.heap.size, 0, none⟩) n n)) w.heap.size n e ∧
    CellsAt ((w.alloc (.cells (madeCells #[z] n) e)).setCell ⟨gb, r, none⟩ (.slice (some ⟨w.heap.size, 0, none⟩) n n)) w.heap.size 0 n (fun _ => z) := by
  have hgb := h.blk.lt
  have h2 := h.grown (World.grownBy_alloc w (.cells (madeCells #[z] n) e) none) (by simp) (fun _ _ => by simp)
  have hB := h.lt
  refine ⟨⟨h2.blk.set r _, (h2.cells.set0 hr _).congr fun i hi => ?_, fun i hi => ?_, fun i j hi hj => ?_, fun i hi => ?_, fun i hi => ?_, h.ownG⟩, (Blk.made w z n e).other (by show gb ≠ _; omega) _, (CellsAt.made w z n e).other (by show gb ≠ _; omega) _⟩
  · by_cases e1 : i = r
    · subst e1; rw [if_pos rfl, if_pos (by omega), if_pos rfl]
    · rw [if_neg e1]
      by_cases e2 : i < r
      · rw [if_pos e2, if_pos (by omega), if_neg e1]
      · rw [if_neg e2, if_neg (by omega)]
  · show Blk _ (if i = r then _ else B i) n e ∧ RowAt k _ (if i = r then _ else B i) 0 n (G i)
    rw [if_neg (by omega)]
    have := h.off i hi
    exact ⟨(h2.rows i hi).1.other (by show gb ≠ _; omega) _, (h2.rows i hi).2.other (by show gb ≠ _; omega) _⟩
  · show (if i = r then _ else B i) = (if j = r then _ else B j) → _
    rw [if_neg (by omega), if_neg (by omega)]; exact h.apart i j hi hj
  · show (if i = r then _ else B i) ≠ gb
    rw [if_neg (by omega)]; exact h.off i hi
  · show base ≤ (if i = r then _ else B i)
    rw [if_neg (by omega)]; exact h.own i hi

/-- the row is full -/
theorem Part.full (h : Part k e E w base gb m n B G (r + 1) r) (hb : Blk w (B r) n e) (hf : RowAt k w (B r) 0 n (G r)) (ha : ∀ i, i < r → B i ≠ B r) (ho : B r ≠ gb) (hw : base ≤ B r) :
    Part k e E w base gb m n B G (r + 1) (r + 1) :=
  { h with
    rows := fun i hi => by
      by_cases e1 : i = r
      · subst e1; exact ⟨hb, hf⟩
      · exact h.rows i (by omega)
    apart := fun i j hi hj e1 => by
      by_cases e2 : i = r
      · by_cases e3 : j = r
        · omega
        · subst e2; exact absurd e1.symm (ha j (by omega))
      · by_cases e3 : j = r
        · subst e3; exact absurd e1 (ha i (by omega))
        · exact h.apart i j (by omega) (by omega) e1
    off := fun i hi => by
      by_cases e1 : i = r
      · subst e1; exact ho
      · exact h.off i (by omega)
    own := fun i hi => by
      by_cases e1 : i = r
      · subst e1; exact hw
      · exact h.own i (by omega) }

theorem Part.congr (h : Part k e E w base gb m n B G c r) {G' : Nat → Nat → Int} (hG : ∀ i j, i < r → j < n → G i j = G' i j) : Part k e E w base gb m n B G' c r :=
  { h with rows := fun i hi => ⟨(h.rows i hi).1, (h.rows i hi).2.congr fun j hj => hG i j hi hj⟩ }

/-- what is whole is a grid -/
theorem Part.grid (h : Part k e E w base gb m n B G m m) (hn : n ≤ 17592186044416) : GridAt k w base gb 0 m n B (fun _ => 0) (fun _ => n) G :=
  ⟨fun i hi => (h.cells.get hi (if_pos hi)), fun i hi => (h.rows i hi).2, h.apart, h.off, fun i _ => ⟨Nat.le_refl _, hn⟩, h.own, h.ownG, h.lt⟩
end

/-- one entry more of the row -/
theorem fill_rel {k : IntKind} {e E : TypeId} {w wr w6 : World} {gb R K nb l j : Nat} {B : Nat → Nat} {G : Nat → Nat → Int} {f g : Nat → Int} {v : Int} (hb6 : Below wr.drew.heap.size wr.drew w6)
    (hp : Part k e E wr w.heap.size gb R K B G (l + 1) l) (hblk : Blk wr nb K e) (hrow : RowAt k wr nb 0 K f) (hbel : Below w.heap.size w wr) (hlt : nb < wr.heap.size)
    (hgb : gb < nb) (hw : w.heap.size < nb) (hB : ∀ i, i < l → B i < nb) (hj : j < K) (hg : ∀ i, i < K → (if i = j then v else f i) = g i) :
    Part k e E (w6.setCell ⟨nb, j, none⟩ (.int k v)) w.heap.size gb R K B G (l + 1) l ∧ Blk (w6.setCell ⟨nb, j, none⟩ (.int k v)) nb K e ∧ RowAt k (w6.setCell ⟨nb, j, none⟩ (.int k v)) nb 0 K g ∧
      Below w.heap.size w (w6.setCell ⟨nb, j, none⟩ (.int k v)) ∧ nb < (w6.setCell ⟨nb, j, none⟩ (.int k v)).heap.size ∧
      (∀ o u, wr.cell? ⟨w.heap.size, o, none⟩ = some u → (w6.setCell ⟨nb, j, none⟩ (.int k v)).cell? ⟨w.heap.size, o, none⟩ = some u) := by
  have hb7 : Below wr.heap.size wr w6 := ((Below.refl _ _).drew).trans hb6
  have hg1 := gb_below hb7 (some nb)
  have hg2 : wr.grownBy (w6.setCell ⟨nb, j, none⟩ (.int k v)) (some nb) := gb_trans hg1 (gb_set _ _ _)
  have hr6 : RowAt k w6 nb 0 K f := hrow.below hb7
  have hk6 : Blk w6 nb K e := hblk.grown (gb_below hb7 none) (by simp)
  refine ⟨hp.grown hg2 (by simp; omega) (fun i hi => by have := hB i hi; simp; omega), hk6.set j _, (hr6.set0 hj v).congr hg, ?_, ?_, fun o u hu => ?_⟩
  · exact hbel.grown hg2 hbel.size (fun q hq => by injection hq with hq; omega)
  · exact Nat.lt_of_lt_of_le hlt hg2.size
  · exact hg2.cell hu (by simp; omega)

set_option maxHeartbeats 2000000 in
set_option maxRecDepth 100000 in
theorem residues_any (p : Int) (h1 : 1 ≤ p) (h2 : p < 2147483648) (R K N : Nat) (hR : R ≤ 64) (hK : K ≤ 64) (hN : N = R * K) (s : Value) (x : Nat → Raw) (w : World) (hr : RdL w s N x) :
    Calls Try.prog 45 #[.int .u64 p, .agg #[.int .i64 R, .int .i64 K, s]] w fun e w' =>
      ∃ gb B, e = .returned (.slice (some ⟨gb, 0, none⟩) R R) ∧ Part .u64 22 54 w' w.heap.size gb R K B (fun i j => resid (x (i * K + j)) p) R R ∧ Below w.heap.size w w' := by
  have m1 := mk_words K (by omega)
  have m2 := mk_grid R (by omega)
  obtain ⟨a, cap, rfl, g1, g2, g3⟩ := hr
  have G3 := Lib.hid g3
  have HN := Lib.hid hN
  clear g3 hN
  go_enter Try.func45, Try.ntmps45
  go_wp2_with fail
  go_loopw [13] (fun iv wr => ∃ (l : Nat) (B : Nat → Nat), l ≤ R ∧ iv = .int .i64 l ∧ Part .u64 22 54 wr w.heap.size (w.heap.size + 1) R K B (fun i j => resid (x (i * K + j)) p) l l ∧
      Below w.heap.size w wr ∧ w.heap.size < wr.heap.size ∧ wr.cell? ⟨w.heap.size, 0, none⟩ = some (.int .i64 R) ∧ wr.cell? ⟨w.heap.size, 1, none⟩ = some (.int .i64 K) ∧ wr.cell? ⟨w.heap.size, 2, none⟩ = some (.slice a N cap))
    (fun iv _ => R - (intOf iv).toNat)
  case atStart =>
    refine ⟨0, fun _ => 0, by omega, rfl, ?_, ((Below.refl _ _).alloc (Nat.le_refl _) _).alloc (by simp) _, by simp; omega, by go_simp, by go_simp, by go_simp⟩
    have := Part.start (k := .u64) (e := 22) (E := 54) (B := fun _ => 0) (G := fun i j => resid (x (i * K + j)) p) (w.alloc (.cells #[.int .i64 R, .int .i64 K, .slice a N cap] 34)) w.heap.size R K (by simp)
    simpa using this
  case round =>
    obtain ⟨l, B, l1, rfl, hp, hbel, hsz, x0, x1, x2⟩ := hrel
    by_cases hl : l < R
    · obtain ⟨c1, c2⟩ := hp.cells.get0 hl (x := .slice none 0 0) (if_neg (by omega))
      have hgb := hp.blk.lt
      obtain ⟨nb, hnb⟩ : ∃ nb, nb = wr.heap.size := ⟨_, rfl⟩
      obtain ⟨B', hB'⟩ : ∃ B' : Nat → Nat, B' = fun i => if i = l then wr.heap.size else B i := ⟨_, rfl⟩
      have hB'l : B' l = nb := by rw [hB', hnb]; exact if_pos rfl
      have hBl : ∀ i, i < l → B' i = B i := fun i hi => by rw [hB']; exact if_neg (by omega)
      have hBlt := hp.lt
      obtain ⟨n1, n2, n3⟩ := hp.next hl (.int .u64 0) (by omega)
      rw [← hB'] at n1
      have hg5 : wr.grownBy ((wr.alloc (.cells (madeCells #[.int .u64 0] K) 22)).setCell ⟨w.heap.size + 1, l, none⟩ (.slice (some ⟨wr.heap.size, 0, none⟩) K K)) (some (w.heap.size + 1)) :=
        gb_trans (World.grownBy_alloc _ _ _) (gb_set _ _ _)
      have hb5 := (hbel.alloc (by omega) (.cells (madeCells #[.int .u64 0] K) 22)).setCell (p := ⟨w.heap.size + 1, l, none⟩) (by simp) (.slice (some ⟨wr.heap.size, 0, none⟩) K K)
      have z0 := hg5.cell x0 (by simp)
      have z1 := hg5.cell x1 (by simp)
      have z2 := hg5.cell x2 (by simp)
      have hz5 : nb < ((wr.alloc (.cells (madeCells #[.int .u64 0] K) 22)).setCell ⟨w.heap.size + 1, l, none⟩ (.slice (some ⟨wr.heap.size, 0, none⟩) K K)).heap.size := by rw [hnb]; simp
      have he := World.setCell_alloc_past (w := wr) (.cells (madeCells #[.int .u64 0] K) 22) (w.heap.size + 1) l (.slice (some ⟨wr.heap.size, 0, none⟩) K K) hgb
      rw [he] at n1 n2 n3 hb5 z0 z1 z2 hz5
      have N1 := Lib.hid n1
      have N2 := Lib.hid n2
      have N3 := Lib.hid n3
      have HB5 := Lib.hid hb5
      have Z := Lib.hid (And.intro z0 (And.intro z1 (And.intro z2 hz5)))
      have HBL := Lib.hid (And.intro hB'l (And.intro hBl hBlt))
      have HNB := Lib.hid hnb
      clear n1 n2 n3 hb5 z0 z1 z2 hz5 hg5 he hnb hB' hB'l hBl hBlt
      go_wp2_with fail
      generalize (wr.setCell ⟨w.heap.size + 1, l, none⟩ (.slice (some ⟨wr.heap.size, 0, none⟩) K K)).alloc (.cells (madeCells #[.int .u64 0] K) 22) = W5 at N1 N2 N3 HB5 Z ⊢
      rw [← HNB.out]
      rw [← HNB.out] at N2 N3
      have hgnb : w.heap.size + 1 < nb := by rw [HNB.out]; exact hgb
      have HBL : Hid (B' l = nb ∧ (∀ i, i < l → B' i = B i) ∧ ∀ i, i < l → B i < nb) := by rw [HNB.out]; rw [HNB.out] at HBL; exact HBL
      go_loopw [27] (fun jv wr => ∃ j : Nat, j ≤ K ∧ jv = .int .i64 j ∧ Part .u64 22 54 wr w.heap.size (w.heap.size + 1) R K B' (fun i j => resid (x (i * K + j)) p) (l + 1) l ∧
          Blk wr nb K 22 ∧ RowAt .u64 wr nb 0 K (fun c => if c < j then resid (x (l * K + c)) p else 0) ∧ Below w.heap.size w wr ∧ nb < wr.heap.size ∧
          wr.cell? ⟨w.heap.size, 0, none⟩ = some (.int .i64 R) ∧ wr.cell? ⟨w.heap.size, 1, none⟩ = some (.int .i64 K) ∧ wr.cell? ⟨w.heap.size, 2, none⟩ = some (.slice a N cap))
        (fun jv _ => K - (intOf jv).toNat)
      case atStart =>
        obtain ⟨z0, z1, z2, z3⟩ := Z.out
        exact ⟨0, by omega, rfl, N1.out, N2.out, (CellsAt.row (f := fun _ => 0) N3.out).congr fun i _ => (if_neg (by omega)).symm, HB5.out, z3, z0, z1, z2⟩
      case round =>
        clear N1 N2 N3 HB5 Z x0 x1 x2 hp hbel c1 c2
        obtain ⟨j, j1, rfl, hp, hblk, hrow, hbel, hlt, x0, x1, x2⟩ := hrel
        by_cases hj : j < K
        · obtain ⟨c1, c2⟩ := hp.cells.get0 hl (x := .slice (some ⟨nb, 0, none⟩) K K) ((if_pos (by omega)).trans (by rw [HBL.out.1]))
          obtain ⟨c3, c4⟩ := hrow.get0 hj (x := 0) (if_neg (by omega))
          obtain ⟨q, hq⟩ : ∃ q, q = l * K + j := ⟨_, rfl⟩
          have hqN : q < N := by
            rw [hq, HN.out]
            have := Nat.mul_le_mul_right K (show l + 1 ≤ R by omega)
            rw [Nat.add_mul, Nat.one_mul] at this; omega
          have e1 : 0 ≤ (l : Int) * K ∧ (l : Int) * K ≤ 4096 := by
            refine ⟨Int.mul_nonneg (by omega) (by omega), ?_⟩
            have := Int.mul_le_mul (show (l : Int) ≤ 64 by omega) (show (K : Int) ≤ 64 by omega) (by omega) (by omega); omega
          have e2 : (l : Int) * K + j = q := by rw [hq]; simp
          obtain ⟨e3, e4⟩ := e1
          obtain ⟨b, o, ha, hc⟩ := G3.out (by omega)
          subst ha
          obtain ⟨mm, d1, d2, d3⟩ := hc q hqN
          have d1 := cell_stays hbel d1
          have d2 := cell_stays hbel d2
          have d3 := Lib.hid (d3.below hbel)
          have HQ := Lib.hid hq
          clear hc hq
          have HP := Lib.hid hp
          have HRW := Lib.hid hrow
          clear hp hrow
          go_wp2_with fail
          have hrd : RdI wr (.agg #[.bool (x q).neg, mm]) (x q) := ⟨mm, rfl, d3.out⟩
          have HRD := Lib.hid hrd
          have f1 := World.block_lt_of_cell? wr _ d1
          have f2 := World.block_lt_of_cell? wr _ d2
          have f3 : w.heap.size < wr.heap.size := by omega
          have f4 : w.heap.size + 1 < wr.heap.size := by omega
          have g0 : (0 : Int) ≤ (q : Int) := by omega
          have g1 : (q : Int) < (N : Int) := by omega
          have g2 : IntKind.i64.wrap ((l : Int) * K) = (l : Int) * K := IntWalk.i64_in _ (by omega)
          have g3 : IntKind.i64.wrap ((q : Nat) : Int) = q := IntWalk.i64_in _ (by omega)
          have g4 : IntKind.i64.wrap ((l : Int) * K + j) = q := by rw [e2]; exact g3
          have g5 : (0 : Int) ≤ (l : Int) := by omega
          have g6 : (l : Int) < (R : Int) := by omega
          have g7 : (0 : Int) ≤ (j : Int) := by omega
          have g8 : (j : Int) < (K : Int) := by omega
          clear hrd
          go_region_with ((go_at_call 55; refine (residue_any p h1 h2 _ (x q) _ (HRD.out.below (Below.refl _ _).drew)).mono ?_; rintro e w6 ⟨rfl, hb6⟩; have k0 := cell_stays (w := wr.drew) hb6 c1; have k1 := cell_stays (w := wr.drew) hb6 c3; have k2 := froz_stays (w := wr.drew) hb6 c3 c4))
          all_goals
            obtain ⟨b1, b2, b3⟩ := HBL.out
            obtain ⟨r1, r2, r3, r4, r5, r6⟩ := fill_rel hb6 HP.out hblk HRW.out hbel hlt hgnb (by omega) (fun i hi => by rw [b2 i hi]; exact b3 i hi) hj
              (g := fun c => if c < j + 1 then resid (x (l * K + c)) p else 0) (v := resid (x q) p) (fun i hi => by
                by_cases ei : i = j
                · rw [if_pos ei, if_pos (by omega), HQ.out, ei]
                · rw [if_neg ei]
                  by_cases e5 : i < j
                  · rw [if_pos e5, if_pos (by omega)]
                  · rw [if_neg e5, if_neg (by omega)])
            have R1 := Lib.hid r1
            have R6 := Lib.hid r6
            clear r1 r6 b1 b2 b3
            go_wp2_with fail
            go_roundw
            case rel => exact ⟨j + 1, by omega, by go_num, R1.out, r2, r3, r4, r5, R6.out _ _ x0, R6.out _ _ x1, R6.out _ _ x2⟩
            case measure => simp [intOf]; omega
        · obtain rfl : j = K := by omega
          go_wp2_with fail
          go_roundw
          case rel =>
            obtain ⟨b1, b2, b3⟩ := HBL.out
            refine ⟨l + 1, B', by omega, by go_num, hp.full ?_ ?_ ?_ ?_ ?_, hbel, by omega, x0, x1, x2⟩
            · rw [b1]; exact hblk
            · rw [b1]; exact hrow.congr fun c hc => if_pos hc
            · intro i hi; rw [b1, b2 i hi]; have := b3 i hi; omega
            · rw [b1]; omega
            · rw [b1]; omega
          case measure => simp [intOf]; omega
    · obtain rfl : l = R := by omega
      go_wp2_with fail
      go_ret
      exact ⟨_, B, rfl, hp, hbel⟩
end Go.Proofs.Ytdlpemmoobbgnaa

namespace Go.Proofs.Ytdlpemmoobbgnaa
open Go.RowKit

/-- how many words there are up to the highest that is not 0 -/
def sz (f : Nat → Int) : Nat → Nat
  | 0 => 0
  | n + 1 => if f n = 0 then sz f n else n + 1

theorem sz_le (f : Nat → Int) : ∀ n, sz f n ≤ n
  | 0 => Nat.le_refl _
  | n + 1 => by unfold sz; split; exact Nat.le_trans (sz_le f n) (by omega); omega
theorem sz_top (f : Nat → Int) : ∀ n, 0 < sz f n → f (sz f n - 1) ≠ 0
  | 0 => by intro h; simp [sz] at h
  | n + 1 => by
    unfold sz
    split
    · exact sz_top f n
    · intro _; simpa using by assumption
theorem sz_above (f : Nat → Int) : ∀ n i, sz f n ≤ i → i < n → f i = 0
  | 0, i => by intro _ h; omega
  | n + 1, i => by
    unfold sz
    split
    · rename_i h
      intro h1 h2
      by_cases e : i = n
      · subst e; exact h
      · exact sz_above f n i h1 (by omega)
    · intro h1 h2; omega

theorem wd_get {k : IntKind} {w : World} {v : Value} {n : Nat} {f : Nat → Int} (h : RdA k w v n f) : ∃ a cap, v = .slice a n cap ∧ n ≤ cap ∧ n ≤ 17592186044416 ∧
    (∀ i, i < n → ∃ b o, a = some ⟨b, o, none⟩ ∧ w.cell? ⟨b, o + i, none⟩ = some (.int k (f i))) := by
  obtain ⟨a, cap, e, h1, h2, h3⟩ := h
  refine ⟨a, cap, e, h1, h2, fun i hi => ?_⟩
  obtain ⟨b, o, e, h4⟩ := h3 (by omega)
  exact ⟨b, o, e, h4 i hi⟩

set_option maxHeartbeats 400000 in
theorem size_any (v : Value) (n : Nat) (f : Nat → Int) (w : World) (hr : RdA .u64 w v n f) :
    Calls Try.prog 130 #[v] w fun e w' => e = .returned (.int .i64 (sz f n)) ∧ w = w' := by
  obtain ⟨a, cap, rfl, h1, h2, h3⟩ := wd_get hr
  have H3 := Lib.hid h3
  clear h3 hr
  go_enter Try.func130, Try.ntmps130
  go_wp2_with fail
  go_loop [3] (fun kv => ∃ k : Nat, k ≤ n ∧ Hid (sz f k = sz f n) ∧ kv = .int .i64 k) (fun kv => (intOf kv).toNat)
  case atStart => exact ⟨n, Nat.le_refl _, rfl, rfl⟩
  case round =>
    obtain ⟨k, k1, k2, rfl⟩ := hrel
    rcases Nat.eq_zero_or_pos k with e | hk
    · subst e
      go_wp2_with fail
      go_ret
      exact ⟨by rw [← k2.out]; rfl, rfl⟩
    · obtain ⟨b, o, rfl, hc⟩ := H3.out (k - 1) (by omega)
      have hk' : (0 : Int) < (k : Int) := by omega
      obtain ⟨x, hx⟩ : ∃ x, x = f (k - 1) := ⟨_, rfl⟩
      rw [← hx] at hc
      obtain ⟨q, hq⟩ : ∃ q, q = k - 1 := ⟨_, rfl⟩
      rw [← hq] at hc
      have hq1 : (k : Int) - 1 = (q : Int) := by omega
      have hq2 : q < n := by omega
      have HQ := Lib.hid hq
      have HX := Lib.hid hx
      clear hq hx
      by_cases hz : x = 0
      · have hzb : (x == 0) = true := beq_iff_eq.2 hz
        have HZ := Lib.hid hz
        clear hz
        go_wp2_with fail
        go_round
        case rel =>
          refine ⟨q, by omega, ?_, rfl⟩
          show _ = _
          rw [← k2.out, show k = q + 1 by have := HQ.out; omega]
          show _ = if f q = 0 then sz f q else q + 1
          rw [if_pos (by rw [HQ.out, ← HX.out]; exact HZ.out)]
        case measure => simp [intOf]; omega
      · have hzb : (x == 0) = false := beq_eq_false_iff_ne.2 hz
        have hfin : Hid (sz f n = k) := by
          show _ = _
          rw [← k2.out, show k = q + 1 by have := HQ.out; omega]
          show (if f q = 0 then sz f q else q + 1) = _
          rw [if_neg (by rw [HQ.out, ← HX.out]; exact hz)]
        clear hz
        go_wp2_with fail
        go_ret
        exact ⟨by rw [hfin.out]; rfl, rfl⟩

theorem infoW1 : (Try.prog.info? 22).map (·.size) = some 1 := by kernel_rfl

set_option maxHeartbeats 1000000 in
set_option maxRecDepth 100000 in
theorem own_any (v : Value) (n : Nat) (f : Nat → Int) (w : World) (hr : RdA .u64 w v n f) :
    Calls Try.prog 125 #[v] w fun e w' => ∃ b, e = .returned (.slice (some ⟨b, 0, none⟩) (sz f n) (sz f n)) ∧ w.heap.size ≤ b ∧ Blk w' b (sz f n) 22 ∧ RowAt .u64 w' b 0 (sz f n) f ∧ Below w.heap.size w w' := by
  obtain ⟨a, cap, rfl, h1, h2, h3⟩ := wd_get hr
  have hle := sz_le f n
  have hs := size_any _ n f w hr
  obtain ⟨m, hm⟩ : ∃ m, m = sz f n := ⟨_, rfl⟩
  rw [← hm] at hle hs ⊢
  have mk := mk_words m (by omega)
  have H3 := Lib.hid h3
  have HS := Lib.hid hs
  clear h3 hr hm hs
  have k1 : (w.alloc (.cells (madeCells #[Value.int .u64 0] m) 22)).heap[w.heap.size]? = some (.cells (madeCells #[Value.int .u64 0] m).toList.toArray 22 (0, 0)) := by
    simpa using heap_alloc_new w (.cells (madeCells #[Value.int .u64 0] m) 22)
  have k2 : ((List.range m).map fun i => Value.int .u64 (f i)).length = Nat.min n m := by
    rw [List.length_map, List.length_range]; show m = min n m; omega
  have k3 : 0 < ((List.range m).map fun i => Value.int .u64 (f i)).length →
      ∃ ad, a = some ad ∧ ∀ j u, ((List.range m).map fun i => Value.int .u64 (f i))[j]? = some u → (w.alloc (.cells (madeCells #[Value.int .u64 0] m) 22)).cell? (ad.add j) = some u := by
    intro hp
    obtain ⟨b, o, rfl, _⟩ := H3.out 0 (by simp at hp; omega)
    refine ⟨⟨b, o, none⟩, rfl, fun j u hj => ?_⟩
    have hjm : j < m := by have := (List.getElem?_eq_some_iff.1 hj).1; simpa using this
    obtain ⟨b', o', e, hc⟩ := H3.out j (by omega)
    injection e with e; injection e with e1 e2 _; subst e1; subst e2
    rw [Addr.add_lit]
    have : u = .int .u64 (f j) := by simp [hjm] at hj; exact hj.symm
    rw [this]
    exact cell_stays ((Below.refl _ _).alloc (Nat.le_refl _) _) hc
  have k4 : 0 + ((List.range m).map fun i => Value.int .u64 (f i)).length ≤ (madeCells #[Value.int .u64 0] m).toList.length := by simp [madeCells]
  have k5 : ∀ u ∈ ((List.range m).map fun i => Value.int .u64 (f i)), u.oneCell' = true := by
    intro u hu
    obtain ⟨i, _, rfl⟩ := List.mem_map.1 hu
    rfl
  have k6 : Below w.heap.size w (w.alloc (.cells (madeCells #[Value.int .u64 0] m) 22)) := (Below.refl _ _).alloc (Nat.le_refl _) _
  have K1 := Lib.hid k1
  have K2 := Lib.hid k2
  have K3 := Lib.hid k3
  have K4 := Lib.hid k4
  have K5 := Lib.hid k5
  clear k1 k2 k3 k4 k5
  go_enter Try.func125, Try.ntmps125
  go_wp2_with (first
    | (go_at_call 130; refine HS.out.mono ?_; rintro e w' ⟨rfl, rfl⟩)
    | (with_reducible refine wpList_copy_splice (o := ⟨some 11, _, _, _, _, _⟩) rfl (.tmp 9) (.tmp 10) 54 54 rfl 22 Try.underlying54 infoW1 (some ⟨w.heap.size, 0, none⟩) a m m n cap rfl rfl w.heap.size 0 (madeCells #[Value.int .u64 0] m).toList 22 K1.out ((List.range m).map fun i => .int .u64 (f i)) K2.out (fun hp => ⟨rfl, K3.out hp⟩) K4.out K5.out w.heap.size w k6 (Nat.le_refl _) ?_))
  · clear K1 K2 K3 K4 K5
    intro w1 hw1 hb1
    have hcl : w1.heap[w.heap.size]? = some (.cells ((List.range m).map fun i => Value.int .u64 (f i)).toArray 22 (0, 0)) := by
      have := hw1.out
      rw [this]; congr 3
      simp [splice, madeCells]
    obtain ⟨c1, c2⟩ := cells_list hcl
    have C1 := Lib.hid c1
    have C2 := Lib.hid c2
    clear hw1 hcl c1 c2
    go_wp2_with fail
    go_ret
    exact ⟨w.heap.size, rfl, Nat.le_refl _, C1.out, C2.out, hb1⟩

theorem natLeast_any (v : Value) (n : Nat) (f : Nat → Int) (w : World) (hr : RdA .u64 w v n f) :
    Calls Try.prog 100 #[v] w fun e w' => ∃ b, e = .returned (.slice (some ⟨b, 0, none⟩) (sz f n) (sz f n)) ∧ w.heap.size ≤ b ∧ Blk w' b (sz f n) 22 ∧ RowAt .u64 w' b 0 (sz f n) f ∧ Below w.heap.size w w' := by
  have H := Lib.hid (own_any v n f w hr)
  clear hr
  go_enter Try.func100, Try.ntmps100
  go_wp2_with (go_at_call 125; refine H.out.mono ?_; rintro e w1 ⟨b, rfl, h1, h2, h3, h4⟩)
  go_ret
  exact ⟨b, rfl, h1, h2, h3, h4⟩

theorem zof_any (s : Bool) (a : Option Addr) (n cap : Nat) (w : World) :
    Calls Try.prog 99 #[.bool s, .slice a n cap] w fun e w' => e = .returned (.agg #[.bool (s && decide (0 < n)), .slice a n cap]) ∧ Below w.heap.size w w' := by
  cases s with
  | false =>
    go_enter Try.func99, Try.ntmps99
    go_wp2_with fail
    exact bodyPost_ret (v := .agg #[.bool false, .slice a n cap]) (by simp [results, Try.results99, go_sem]) rfl ⟨rfl, (Below.refl _ _).alloc (Nat.le_refl _) _⟩
  | true =>
    go_enter Try.func99, Try.ntmps99
    go_wp2_with fail
    exact bodyPost_ret (v := .agg #[.bool (decide (0 < n)), .slice a n cap]) (by simp [results, Try.results99, go_sem]) rfl ⟨rfl, (Below.refl _ _).alloc (Nat.le_refl _) _⟩

/-- how many words a small number has -/
def w1 (x : Int) : Nat := if x = 0 then 0 else 1
def small (x : Int) : Raw := ⟨false, w1 x, fun _ => x⟩

theorem sz_one (x : Int) : sz (fun _ => x) 1 = w1 x := by unfold sz w1; simp [sz]

/-- two cells just made -/
theorem two_cells (w : World) (u v : Value) (t : TypeId) : (w.alloc (.cells #[u, v] t)).cell? ⟨w.heap.size, 0, none⟩ = some u ∧ (w.alloc (.cells #[u, v] t)).cell? ⟨w.heap.size, 1, none⟩ = some v ∧
    (w.alloc (.cells #[u, v] t)).frozen? ⟨w.heap.size, 0, none⟩ = false ∧ (w.alloc (.cells #[u, v] t)).frozen? ⟨w.heap.size, 1, none⟩ = false := by
  have h := heap_alloc_new w (.cells #[u, v] t)
  refine ⟨by rw [cell_of_row _ _ _ _ _ _ h]; rfl, by rw [cell_of_row _ _ _ _ _ _ h]; rfl, ?_, ?_⟩ <;> (unfold World.frozen?; simp only; rw [h]; simp)

set_option maxHeartbeats 400000 in
theorem Of_any (x : Int) (h0 : 0 ≤ x) (h1 : x ≤ 9223372036854775807) (w : World) :
    Calls Try.prog 75 #[.int .i64 x] w fun e w' => ∃ b, e = .returned (.agg #[.bool false, .slice (some ⟨b, 0, none⟩) (w1 x) (w1 x)]) ∧ w.heap.size ≤ b ∧ Blk w' b (w1 x) 22 ∧ RowAt .u64 w' b 0 (w1 x) (fun _ => x) ∧ Below w.heap.size w w' := by
  obtain ⟨z0, z1, z2, z3⟩ := two_cells w (.bool false) (.slice none 0 0) 56
  have hb0 : Below w.heap.size w (w.alloc (.cells #[.bool false, .slice none 0 0] 56)) := (Below.refl _ _).alloc (Nat.le_refl _) _
  have hs0 : (w.alloc (.cells #[.bool false, .slice none 0 0] 56)).heap.size = w.heap.size + 1 := by simp
  have HB0 := Lib.hid hb0
  have Z := Lib.hid (And.intro z0 (And.intro z1 (And.intro z2 z3)))
  have HS0 := Lib.hid hs0
  clear hb0 hs0 z0 z1 z2 z3
  go_enter Try.func75, Try.ntmps75
  go_wp2_with fail
  obtain ⟨z0, z1, z2, z3⟩ := Z.out
  have hs0 := HS0.out
  rw [← hs0]
  have hb0 := HB0.out
  clear Z HS0 HB0
  generalize w.alloc (.cells #[.bool false, .slice none 0 0] 56) = W at z0 z1 z2 z3 hb0 hs0 ⊢
  have hr : RdA .u64 (W.alloc (.cells #[.int .u64 x] 22)) (.slice (some ⟨W.heap.size, 0, none⟩) 1 1) 1 (fun _ => x) := by
    refine ⟨_, 1, rfl, Nat.le_refl _, by omega, fun _ => ⟨W.heap.size, 0, rfl, fun i hi => ?_⟩⟩
    obtain rfl : i = 0 := by omega
    rw [cell_of_row _ _ _ _ _ _ (heap_alloc_new W _)]; rfl
  have hb1 : Below W.heap.size W (W.alloc (.cells #[.int .u64 x] 22)) := (Below.refl _ _).alloc (Nat.le_refl _) _
  refine (natLeast_any _ 1 _ _ hr).mono ?_
  rw [sz_one]
  rintro e w1 ⟨b, rfl, c1, c2, c3, c4⟩
  have hb2 : Below W.heap.size W w1 := hb1.trans (c4.mono (by simp))
  have y0 := cell_stays hb2 z0
  have y1 := cell_stays hb2 z1
  have y2 := froz_stays hb2 z0 z2
  have y3 := froz_stays hb2 z1 z3
  have hb3 : Below w.heap.size w w1 := hb0.trans (hb2.mono (by omega))
  have hbw : w.heap.size + 1 ≤ b := by rw [← hs0]; simp at c1; omega
  have C2 := Lib.hid c2
  have C3 := Lib.hid c3
  have HS0 := Lib.hid hs0
  clear hr hb1 c1 c2 c3 c4 hb0 hb2 z0 z1 z2 z3 hs0
  go_wp2_with (go_at_call 99; refine (zof_any false _ _ _ _).mono ?_; rintro e w3 ⟨rfl, d4⟩; have x0 := cell_stays d4 y0; have x1 := cell_stays d4 y1; have x2 := froz_stays d4 y0 y2; have x3 := froz_stays d4 y1 y3)
  have hg : w1.grownBy ((w3.setCell ⟨w.heap.size, 0, none⟩ (.bool false)).setCell ⟨w.heap.size, 1, none⟩ (.slice (some ⟨b, 0, none⟩) (Ytdlpemmoobbgnaa.w1 x) (Ytdlpemmoobbgnaa.w1 x))) (some w.heap.size) :=
    gb_trans (gb_below d4 _) (gb_trans (gb_set _ _ _) (gb_set _ _ _))
  refine bodyPost_ret (v := .agg #[.bool false, .slice (some ⟨b, 0, none⟩) (Ytdlpemmoobbgnaa.w1 x) (Ytdlpemmoobbgnaa.w1 x)]) ?_ rfl ⟨b, rfl, by omega, C2.out.grown hg (by simp; omega), C3.out.gb hg (by simp; omega), hb3.grown hg hb3.size (fun k hk => by injection hk with hk; omega)⟩
  simp [results, Try.results75, go_sem, x0, x1]
end Go.Proofs.Ytdlpemmoobbgnaa

namespace Go.Proofs.Ytdlpemmoobbgnaa

/-- the number told by n digits to the base B, the lowest first -/
def dv (B : Int) (f : Nat → Int) : Nat → Int
  | 0 => 0
  | n + 1 => dv B f n + f n * B ^ n

/-- n digits to the base B of the number N, none of the highest 0 -/
structure Dig (B : Int) (n : Nat) (f : Nat → Int) (N : Int) : Prop where
  bd : ∀ i, i < n → 0 ≤ f i ∧ f i < B
  top : 0 < n → f (n - 1) ≠ 0
  val : dv B f n = N

theorem dv_congr {B : Int} {f g : Nat → Int} : ∀ {n : Nat}, (∀ i, i < n → f i = g i) → dv B f n = dv B g n
  | 0, _ => rfl
  | n + 1, h => by simp only [dv]; rw [dv_congr (fun i hi => h i (by omega)), h n (by omega)]

theorem pow_pos' {B : Int} (hB : 0 < B) : ∀ n : Nat, 0 < B ^ n
  | 0 => by simp
  | n + 1 => by rw [Int.pow_succ]; exact Int.mul_pos (pow_pos' hB n) hB

theorem dv_bd {B : Int} (hB : 0 < B) {f : Nat → Int} : ∀ {n : Nat}, (∀ i, i < n → 0 ≤ f i ∧ f i < B) → 0 ≤ dv B f n ∧ dv B f n < B ^ n
  | 0, _ => by simp [dv]
  | n + 1, h => by
    obtain ⟨h1, h2⟩ := dv_bd hB (n := n) (fun i hi => h i (by omega))
    obtain ⟨h3, h4⟩ := h n (by omega)
    have hp := pow_pos' hB n
    simp only [dv]
    have a1 : 0 ≤ f n * B ^ n := Int.mul_nonneg h3 (by omega)
    have a2 : f n * B ^ n ≤ (B - 1) * B ^ n := Int.mul_le_mul_of_nonneg_right (by omega) (by omega)
    rw [Int.sub_mul, Int.one_mul] at a2
    rw [Int.pow_succ, Int.mul_comm (B ^ n) B]
    omega

/-- a sum of lower digits and a part above -/
theorem dv_split (B : Int) (f : Nat → Int) (a : Nat) : ∀ b, dv B f (a + b) = dv B f a + B ^ a * dv B (fun i => f (a + i)) b
  | 0 => by simp [dv]
  | b + 1 => by
    rw [← Nat.add_assoc]
    simp only [dv]
    rw [dv_split B f a b, Int.mul_add, Int.pow_add]
    grind

theorem dv_zero {B : Int} {f : Nat → Int} : ∀ {n : Nat}, (∀ i, i < n → f i = 0) → dv B f n = 0
  | 0, _ => rfl
  | n + 1, h => by simp only [dv]; rw [dv_zero (fun i hi => h i (by omega)), h n (by omega)]; simp

/-- more places hold zeros -/
theorem dv_more {B : Int} {f : Nat → Int} {m n : Nat} (hmn : m ≤ n) (h : ∀ i, m ≤ i → i < n → f i = 0) : dv B f n = dv B f m := by
  obtain ⟨d, rfl⟩ : ∃ d, n = m + d := ⟨n - m, by omega⟩
  rw [dv_split, dv_zero (fun i hi => h (m + i) (by omega) (by omega))]; simp

theorem natFrom_dv (f : Nat → Int) : ∀ (m i : Nat), natFrom f i m = dv 18446744073709551616 (fun k => f (i + k)) m
  | 0, _ => rfl
  | m + 1, i => by
    show f i + 18446744073709551616 * natFrom f (i + 1) m = _
    rw [natFrom_dv f m (i + 1), Nat.add_comm m 1, dv_split]
    simp only [dv, Nat.add_zero, Int.pow_zero, Int.mul_one, Int.zero_add, Int.pow_succ, Int.one_mul]
    congr 2
    exact dv_congr fun k _ => by rw [Nat.add_assoc]

theorem natFrom_dv0 (f : Nat → Int) (m : Nat) : natFrom f 0 m = dv 18446744073709551616 f m := by
  rw [natFrom_dv]; exact dv_congr fun k _ => by rw [Nat.zero_add]

/-- the digits in least form -/
theorem dig_sz {B : Int} {f : Nat → Int} {n : Nat} (h : ∀ i, i < n → 0 ≤ f i ∧ f i < B) : Dig B (sz f n) f (dv B f n) :=
  ⟨fun i hi => h i (by have := sz_le f n; omega), fun hp => sz_top f n hp, (dv_more (sz_le f n) (fun i h1 h2 => sz_above f n i h1 h2)).symm⟩

theorem Dig.congr {B : Int} {n : Nat} {f g : Nat → Int} {N : Int} (h : Dig B n f N) (e : ∀ i, i < n → f i = g i) : Dig B n g N :=
  ⟨fun i hi => by rw [← e i hi]; exact h.bd i hi, fun hp => by rw [← e (n - 1) (by omega)]; exact h.top hp, by rw [← h.val]; exact (dv_congr e).symm⟩

/-- it is as great as its highest place -/
theorem Dig.ge {B : Int} (hB : 0 < B) {n : Nat} {f : Nat → Int} {N : Int} (h : Dig B n f N) (hn : 0 < n) : B ^ (n - 1) ≤ N := by
  obtain ⟨m, rfl⟩ : ∃ m, n = m + 1 := ⟨n - 1, by omega⟩
  have h1 := h.top hn
  simp only [Nat.add_sub_cancel] at h1 ⊢
  have h2 := h.bd m (by omega)
  have h3 := dv_bd hB (fun i hi => h.bd i (show i < m + 1 by omega)) (n := m)
  have hp := pow_pos' hB m
  have h4 : 1 * B ^ m ≤ f m * B ^ m := Int.mul_le_mul_of_nonneg_right (by omega) (by omega)
  rw [← h.val]; simp only [dv]; omega
theorem Dig.lt {B : Int} (hB : 0 < B) {n : Nat} {f : Nat → Int} {N : Int} (h : Dig B n f N) : N < B ^ n := by rw [← h.val]; exact (dv_bd hB h.bd).2

theorem pow_le' {B : Int} (hB : 1 ≤ B) {m n : Nat} (h : m ≤ n) : B ^ m ≤ B ^ n := by
  obtain ⟨d, rfl⟩ : ∃ d, n = m + d := ⟨n - m, by omega⟩
  rw [Int.pow_add]
  have h1 := pow_pos' (show 0 < B by omega) m
  have h2 := pow_pos' (show 0 < B by omega) d
  have := Int.mul_le_mul_of_nonneg_left (show 1 ≤ B ^ d by omega) (show 0 ≤ B ^ m by omega)
  omega

/-- no more digits than these: -/
theorem Dig.len {B : Int} (hB : 1 < B) {n : Nat} {f : Nat → Int} {N : Int} (h : Dig B n f N) {k : Nat} (hk : N < B ^ k) : n ≤ k := by
  refine Nat.le_of_not_lt fun hlt => ?_
  have h1 := h.ge (by omega) (by omega)
  have h2 := pow_le' (B := B) (by omega) (show k ≤ n - 1 by omega)
  omega

/-- which digit stands at the place i -/
theorem dv_digit {B : Int} (hB : 0 < B) {f : Nat → Int} {n : Nat} (h : ∀ i, i < n → 0 ≤ f i ∧ f i < B) {i : Nat} (hi : i < n) : f i = dv B f n / B ^ i % B := by
  obtain ⟨d, rfl⟩ : ∃ d, n = i + (1 + d) := ⟨n - i - 1, by omega⟩
  have hb := dv_bd hB (fun k hk => h k (show k < i + (1 + d) by omega)) (n := i)
  have hp := pow_pos' hB i
  rw [dv_split, Int.add_mul_ediv_left _ _ (by omega), Int.ediv_eq_zero_of_lt hb.1 hb.2, Int.zero_add, dv_split]
  simp only [dv, Int.pow_zero, Int.mul_one, Int.zero_add, Nat.add_zero, Int.pow_succ, Int.one_mul]
  rw [Int.add_mul_emod_self_left]
  exact (Int.emod_eq_of_lt (h i hi).1 (h i hi).2).symm

theorem Dig.unique {B : Int} (hB : 1 < B) {n m : Nat} {f g : Nat → Int} {N : Int} (h : Dig B n f N) (h' : Dig B m g N) : n = m ∧ ∀ i, i < n → f i = g i := by
  have e : n = m := by
    have h1 := h.len hB (h'.lt (by omega))
    have h2 := h'.len hB (h.lt (by omega))
    omega
  subst e
  exact ⟨rfl, fun i hi => by rw [dv_digit (by omega) h.bd hi, dv_digit (by omega) h'.bd hi, h.val, h'.val]⟩

theorem Dig.zero_iff {B : Int} (hB : 1 < B) {n : Nat} {f : Nat → Int} {N : Int} (h : Dig B n f N) : n = 0 ↔ N = 0 := by
  constructor
  · intro e; subst e; rw [← h.val]; rfl
  · intro e
    refine Classical.byContradiction fun hne => ?_
    have h1 := h.ge (by omega) (by omega)
    have h2 := pow_pos' (show 0 < B by omega) (n - 1)
    omega

/-- the four digits to the base 2^16 of each word -/
def spl (f : Nat → Int) (t : Nat) : Int := f (t / 4) / 65536 ^ (t % 4) % 65536

theorem spl_bd (f : Nat → Int) (t : Nat) : 0 ≤ spl f t ∧ spl f t < 65536 := ⟨Int.emod_nonneg _ (by omega), Int.emod_lt_of_pos _ (by omega)⟩

theorem spl_at (f : Nat → Int) (j k : Nat) (hk : k < 4) : spl f (4 * j + k) = f j / 65536 ^ k % 65536 := by
  unfold spl
  rw [show (4 * j + k) / 4 = j by omega, show (4 * j + k) % 4 = k by omega]

theorem spl_dv (f : Nat → Int) : ∀ n, (∀ i, i < n → 0 ≤ f i ∧ f i < 18446744073709551616) → dv 65536 (spl f) (4 * n) = dv 18446744073709551616 f n
  | 0, _ => rfl
  | n + 1, h => by
    have ih := spl_dv f n (fun i hi => h i (by omega))
    have hb := h n (by omega)
    rw [show 4 * (n + 1) = 4 * n + 4 by omega, dv_split, ih]
    simp only [dv]
    have e0 := spl_at f n 0 (by omega)
    have e1 := spl_at f n 1 (by omega)
    have e2 := spl_at f n 2 (by omega)
    have e3 := spl_at f n 3 (by omega)
    have hp : (65536 : Int) ^ (4 * n) = 18446744073709551616 ^ n := by rw [Int.pow_mul]; rfl
    simp only [Nat.zero_add, Int.zero_add, Nat.add_zero] at *
    rw [e0, e1, e2, e3, hp, Int.mul_comm (f n)]
    congr 2
    have p1 : (65536 : Int) ^ 1 = 65536 := rfl
    have p2 : (65536 : Int) ^ 2 = 4294967296 := rfl
    have p3 : (65536 : Int) ^ 3 = 281474976710656 := rfl
    rw [Int.pow_zero, p1, p2, p3]
    omega

/-- a word of four digits, those from the place n on taken for 0 -/
def joi (f : Nat → Int) (n t : Nat) : Int :=
  (if 4 * t < n then f (4 * t) else 0) + 65536 * ((if 4 * t + 1 < n then f (4 * t + 1) else 0) + 65536 * ((if 4 * t + 2 < n then f (4 * t + 2) else 0) + 65536 * (if 4 * t + 3 < n then f (4 * t + 3) else 0)))

theorem joi_bd {f : Nat → Int} {n : Nat} (h : ∀ i, i < n → 0 ≤ f i ∧ f i < 65536) (t : Nat) : 0 ≤ joi f n t ∧ joi f n t < 18446744073709551616 := by
  unfold joi
  have a (k : Nat) : 0 ≤ (if k < n then f k else 0) ∧ (if k < n then f k else 0) < 65536 := by
    split
    · exact h k (by assumption)
    · omega
  have := a (4 * t); have := a (4 * t + 1); have := a (4 * t + 2); have := a (4 * t + 3)
  omega

theorem joi_dv (f : Nat → Int) (n : Nat) : ∀ m, dv 18446744073709551616 (joi f n) m = dv 65536 (fun i => if i < n then f i else 0) (4 * m)
  | 0 => rfl
  | m + 1 => by
    rw [show 4 * (m + 1) = 4 * m + 4 by omega, dv_split 65536, ← joi_dv f n m]
    simp only [dv]
    have hp : (65536 : Int) ^ (4 * m) = 18446744073709551616 ^ m := by rw [Int.pow_mul]; rfl
    have p1 : (65536 : Int) ^ 1 = 65536 := rfl
    have p2 : (65536 : Int) ^ 2 = 4294967296 := rfl
    have p3 : (65536 : Int) ^ 3 = 281474976710656 := rfl
    rw [hp, Int.mul_comm (joi f n m)]
    congr 2
    unfold joi
    simp only [Nat.zero_add, Int.zero_add, Nat.add_zero, Int.pow_zero, p1, p2, p3]
    omega

/-- digits in least form, put together: words in least form -/
theorem Dig.join {n : Nat} {f : Nat → Int} {N : Int} (h : Dig 65536 n f N) {m : Nat} (h1 : n ≤ 4 * m) (h2 : 4 * m < n + 4) : Dig 18446744073709551616 m (joi f n) N := by
  refine ⟨fun i _ => joi_bd h.bd i, fun hm => ?_, ?_⟩
  · have ht := h.top (by omega)
    have a (k : Nat) : 0 ≤ (if k < n then f k else 0) := by
      split
      · exact (h.bd k (by assumption)).1
      · omega
    have := a (4 * (m - 1)); have := a (4 * (m - 1) + 1); have := a (4 * (m - 1) + 2); have := a (4 * (m - 1) + 3)
    have hn := h.bd (n - 1) (by omega)
    have hx : ∃ k, k < 4 ∧ n - 1 = 4 * (m - 1) + k := ⟨n - 1 - 4 * (m - 1), by omega, by omega⟩
    obtain ⟨k, hk, e⟩ := hx
    have hf : (if 4 * (m - 1) + k < n then f (4 * (m - 1) + k) else 0) ≠ 0 := by rw [if_pos (by omega), ← e]; exact ht
    unfold joi
    rcases (by omega : k = 0 ∨ k = 1 ∨ k = 2 ∨ k = 3) with r | r | r | r <;> subst r <;> (try simp only [Nat.add_zero] at hf) <;> omega
  · rw [joi_dv, dv_more h1 (fun i hi _ => if_neg (by omega)), ← h.val]
    exact dv_congr fun i hi => if_pos hi

/-- a number is told by digits -/
theorem Dig.split {n : Nat} {f : Nat → Int} (h : ∀ i, i < n → 0 ≤ f i ∧ f i < 18446744073709551616) : Dig 65536 (sz (spl f) (4 * n)) (spl f) (dv 18446744073709551616 f n) := by
  rw [← spl_dv f n h]; exact dig_sz fun i _ => spl_bd f i

end Go.Proofs.Ytdlpemmoobbgnaa

namespace Go.Proofs.Ytdlpemmoobbgnaa
open Go.RowKit

set_option maxHeartbeats 1000000 in
theorem take_any (p x : Int) (h1 : 1 ≤ p) (h2 : p < 2147483648) (x0 : 0 ≤ x) (x1 : x < p) (b o cap b' o' cap' m n s : Nat) (f g : Nat → Int) (hn : n ≤ 17592186044416) (hm : m ≤ 17592186044416) (hnm : n ≤ m) (hs : s ≤ n) (hbb : b ≠ b')
    (hf : ∀ i, i < n → 0 ≤ f i ∧ f i < p) (hg : ∀ i, i < n → 0 ≤ g i ∧ g i < p) (w : World) (hr : RowAt .u64 w b o m f) (hr' : RowAt .u64 w b' o' n g) :
    Calls Try.prog 56 #[.int .u64 p, .slice (some ⟨b, o, none⟩) m cap, .slice (some ⟨b', o', none⟩) n cap', .int .u64 x, .int .i64 s] w fun e w' =>
      e = .returned (.tuple #[]) ∧ RowAt .u64 w' b o m (fun i => if s ≤ i ∧ i < n then (f i + g i * (p - x)) % p else f i) ∧ w.grownBy w' (some b) := by
  have HF := Lib.hid hf
  have HG := Lib.hid hg
  clear hf hg
  by_cases hx : x = 0
  · have hxb : (x == 0) = true := beq_iff_eq.2 hx
    have HX := Lib.hid hx
    clear hx
    go_enter Try.func56, Try.ntmps56
    go_wp2_with fail
    refine bodyPost_ret (results_none rfl _ _ _) rfl ?_
    refine ⟨rfl, hr.congr fun i hi => ?_, gb_refl _ _⟩
    by_cases e : s ≤ i ∧ i < n
    · rw [if_pos e]
      obtain ⟨a1, a2⟩ := HF.out i e.2
      rw [HX.out, Int.sub_zero, Int.add_mul_emod_self_right, Int.emod_eq_of_lt a1 a2]
    · rw [if_neg e]
  have hxb : (x == 0) = false := beq_eq_false_iff_ne.2 hx
  have HX := Lib.hid hx
  clear hx
  go_enter Try.func56, Try.ntmps56
  go_wp2_with fail
  go_loopw [11] (fun i wr => ∃ j : Nat, s ≤ j ∧ j ≤ n ∧ i = .int .i64 j ∧ RowAt .u64 wr b o m (fun i => if s ≤ i ∧ i < j then (f i + g i * (p - x)) % p else f i) ∧ RowAt .u64 wr b' o' n g ∧ w.grownBy wr (some b))
    (fun i _ => n - (intOf i).toNat)
  case atStart => exact ⟨s, Nat.le_refl _, hs, rfl, hr.congr fun i _ => by rw [if_neg (by omega)], hr', gb_refl _ _⟩
  case round =>
    obtain ⟨j, j0, j1, rfl, hj, hj', hg⟩ := hrel
    by_cases hjn : j < n
    · obtain ⟨f0, f1⟩ := HF.out j hjn
      obtain ⟨g0, g1⟩ := HG.out j hjn
      obtain ⟨y, hy⟩ : ∃ y, y = f j := ⟨_, rfl⟩
      obtain ⟨z, hz⟩ : ∃ z, z = g j := ⟨_, rfl⟩
      obtain ⟨c1, c2⟩ := hj.get (i := j) (by omega) (x := y) ((if_neg (by omega)).trans hy.symm)
      obtain ⟨d1, d2⟩ := hj'.get hjn (x := z) hz.symm
      rw [← hy] at f0 f1
      rw [← hz] at g0 g1
      obtain ⟨q1, q2⟩ := md.prod_bd z (p - x) p g0 g1 (by omega) (by have := HX.out; omega) h2
      have HY := Lib.hid hy
      have HZ := Lib.hid hz
      have HJ := Lib.hid hj
      have HJ' := Lib.hid hj'
      have hjm : j < m := by omega
      clear hy hj hz hj'
      go_wp2_with fail
      go_region
      go_wp2_with fail
      go_roundw
      case rel =>
        refine ⟨j + 1, by omega, by omega, by go_num, ((HJ.out.set hjm _).block rfl).congr fun i hi => ?_, (HJ'.out.other hbb _).block rfl, gb_trans hg (gb_trans (gb_set _ _ _) (gb_drew _ _))⟩
        by_cases e : i = j
        · rw [if_pos e, if_pos (by omega), e, HY.out, HZ.out]
        · rw [if_neg e]
          by_cases e2 : s ≤ i ∧ i < j
          · rw [if_pos e2, if_pos (by omega)]
          · rw [if_neg e2, if_neg (by omega)]
      case measure => simp [intOf]; omega
    · have HJ := Lib.hid hj
      clear hj
      go_wp2_with fail
      go_end0
      refine ⟨rfl, HJ.out.congr fun i hi => ?_, hg⟩
      by_cases e2 : s ≤ i ∧ i < n
      · rw [if_pos e2, if_pos (by omega)]
      · rw [if_neg e2, if_neg (by omega)]

end Go.Proofs.Ytdlpemmoobbgnaa

namespace Go.Proofs.Ytdlpemmoobbgnaa

structure RS where
  G : Nat → Nat → Int
  P : List Nat
  d : Int

/-- the first row from i on (of those that are left) whose place in column j is not 0 -/
def fnd (G : Nat → Nat → Int) (j : Nat) : Nat → Nat → Nat
  | 0, i => i
  | f + 1, i => if G i j = 0 then fnd G j f (i + 1) else i

theorem fnd_bd (G : Nat → Nat → Int) (j : Nat) : ∀ f i, i ≤ fnd G j f i ∧ fnd G j f i ≤ i + f
  | 0, i => by simp [fnd]
  | f + 1, i => by
    unfold fnd
    split
    · have := fnd_bd G j f (i + 1); omega
    · omega

theorem fnd_ne (G : Nat → Nat → Int) (j : Nat) : ∀ f i, fnd G j f i < i + f → G (fnd G j f i) j ≠ 0
  | 0, i => by simp [fnd]
  | f + 1, i => by
    unfold fnd
    split
    · intro h; exact fnd_ne G j f (i + 1) (by omega)
    · intro _; assumption

theorem fnd_zero (G : Nat → Nat → Int) (j : Nat) : ∀ f i l, i ≤ l → l < fnd G j f i → G l j = 0
  | 0, i, l => by simp [fnd]; omega
  | f + 1, i, l => by
    unfold fnd
    split
    · intro h1 h2
      by_cases e : l = i
      · subst e; assumption
      · exact fnd_zero G j f (i + 1) l (by omega) h2
    · intro h1 h2; omega

/-- scaled from the column j on -/
def scaleF (p x : Int) (j : Nat) (f : Nat → Int) : Nat → Int := fun c => if j ≤ c then f c * x % p else f c
/-- less a multiple of another row, in the columns j to n - 1 -/
def takeF (p x : Int) (j n : Nat) (f g : Nat → Int) : Nat → Int := fun c => if j ≤ c ∧ c < n then (f c + g c * (p - x)) % p else f c

/-- the rows before k are done -/
def elimF (p : Int) (j n r : Nat) (G : Nat → Nat → Int) (k : Nat) : Nat → Nat → Int :=
  fun i => if i < k ∧ i ≠ r then takeF p (G i j) j n (G i) (G r) else G i

def swF (i r : Nat) (G : Nat → Nat → Int) : Nat → Nat → Int := fun l => G (sw i r l)
def scF (p : Int) (j r : Nat) (G : Nat → Nat → Int) : Nat → Nat → Int := fun l c => if l = r then scaleF p (invm p (G r j)) j (G r) c else G l c

theorem swF_self (i : Nat) (G : Nat → Nat → Int) : swF i i G = G := by funext l; unfold swF; rw [sw_self]

/-- one column -/
def RS.step (p : Int) (m n j : Nat) (s : RS) : RS :=
  let r := s.P.length
  let i := fnd s.G j (m - r) r
  if i = m then s else
    { G := elimF p j n r (scF p j r (swF i r s.G)) m
      P := s.P ++ [j]
      d := (if i = r then s.d else (p - s.d) % p) * swF i r s.G r j % p }

def RS.run (p : Int) (m n : Nat) (s : RS) : Nat → RS
  | 0 => s
  | j + 1 => (RS.run p m n s j).step p m n j

def Res (p : Int) (m n : Nat) (G : Nat → Nat → Int) : Prop := ∀ i j, i < m → j < n → 0 ≤ G i j ∧ G i j < p

theorem scaleF_bd {p x : Int} (hp : 1 ≤ p) {j c : Nat} {f : Nat → Int} (h : 0 ≤ f c ∧ f c < p) : 0 ≤ scaleF p x j f c ∧ scaleF p x j f c < p := by
  unfold scaleF; split
  · exact md.mod_bd _ p hp
  · exact h
theorem takeF_bd {p x : Int} (hp : 1 ≤ p) {j n c : Nat} {f g : Nat → Int} (h : 0 ≤ f c ∧ f c < p) : 0 ≤ takeF p x j n f g c ∧ takeF p x j n f g c < p := by
  unfold takeF; split
  · exact md.mod_bd _ p hp
  · exact h
theorem Res.sw {p : Int} {m n i r : Nat} {G : Nat → Nat → Int} (h : Res p m n G) (hi : i < m) (hr : r < m) : Res p m n (swF i r G) := fun l c hl hc => h _ c (sw_lt hi hr hl) hc
theorem Res.sc {p : Int} {m n j r : Nat} {G : Nat → Nat → Int} (hp : 1 ≤ p) (h : Res p m n G) : Res p m n (scF p j r G) := by
  intro l c hl hc
  unfold scF; split
  · rename_i e; subst e; exact scaleF_bd hp (h _ c hl hc)
  · exact h l c hl hc
theorem Res.elim {p : Int} {m n j r k : Nat} {G : Nat → Nat → Int} (hp : 1 ≤ p) (h : Res p m n G) : Res p m n (elimF p j n r G k) := by
  intro l c hl hc
  unfold elimF; split
  · exact takeF_bd hp (h _ c hl hc)
  · exact h l c hl hc

theorem RS.step_len {p : Int} {m n j : Nat} {s : RS} (h : s.P.length ≤ m) : (s.step p m n j).P.length ≤ m := by
  unfold RS.step
  have := (fnd_bd s.G j (m - s.P.length) s.P.length)
  simp only
  split
  · exact h
  · simp; omega

theorem RS.run_len {p : Int} {m n : Nat} {s : RS} (h : s.P.length ≤ m) : ∀ j, (s.run p m n j).P.length ≤ m
  | 0 => h
  | j + 1 => RS.step_len (RS.run_len h j)

theorem RS.step_res {p : Int} {m n j : Nat} {s : RS} (hp : 1 ≤ p) (hl : s.P.length ≤ m) (h : Res p m n s.G) : Res p m n (s.step p m n j).G := by
  unfold RS.step
  have hb := fnd_bd s.G j (m - s.P.length) s.P.length
  simp only
  split
  · exact h
  · exact ((h.sw (by omega) (by omega)).sc hp).elim hp

theorem RS.run_res {p : Int} {m n : Nat} {s : RS} (hp : 1 ≤ p) (hl : s.P.length ≤ m) (h : Res p m n s.G) : ∀ j, Res p m n (s.run p m n j).G
  | 0 => h
  | j + 1 => RS.step_res hp (RS.run_len hl j) (RS.run_res hp hl h j)

theorem RS.step_d {p : Int} {m n j : Nat} {s : RS} (hp : 1 ≤ p) (h : 0 ≤ s.d ∧ s.d < p) : 0 ≤ (s.step p m n j).d ∧ (s.step p m n j).d < p := by
  unfold RS.step
  simp only
  split
  · exact h
  · exact md.mod_bd _ p hp

theorem RS.run_d {p : Int} {m n : Nat} {s : RS} (hp : 1 ≤ p) (h : 0 ≤ s.d ∧ s.d < p) : ∀ j, 0 ≤ (s.run p m n j).d ∧ (s.run p m n j).d < p
  | 0 => h
  | j + 1 => RS.step_d hp (RS.run_d hp h j)

/-- behind the last row nothing turns any more -/
theorem RS.step_full {p : Int} {m n j : Nat} {s : RS} (h : s.P.length = m) : s.step p m n j = s := by
  unfold RS.step
  have : fnd s.G j (m - s.P.length) s.P.length = m := by have := fnd_bd s.G j (m - s.P.length) s.P.length; omega
  simp only
  rw [if_pos this]

theorem RS.run_full {p : Int} {m n : Nat} {s : RS} {j : Nat} (h : (s.run p m n j).P.length = m) : ∀ i, s.run p m n (j + i) = s.run p m n j
  | 0 => rfl
  | i + 1 => by
    show (s.run p m n (j + i)).step p m n (j + i) = _
    rw [RS.run_full h i, RS.step_full h]

end Go.Proofs.Ytdlpemmoobbgnaa
