import Derived.Test.YtejliecmdkmgiaaGL
import Derived.WalkKit
import Derived.WalkSpells
import Derived.WalkLawsBesides
import Derived.Lib.Hide
import Derived.Lib.BitFns
import Derived.Test.YtejliecmdkmgiaaGA
import Derived.Deep.QuietTactic
import Derived.BigQuiet
import Derived.Test.YtejliecmdkmgiaaGB
import Derived.WalkMore
set_option linter.unusedVariables false
set_option linter.unusedSimpArgs false
set_option maxHeartbeats 8000000
set_option maxRecDepth 100000
namespace Go.Proofs.Ytejliecmdkmgiaa.dv
theorem stop (q r v1 v0 u u1 Y Q : Int) (hY : Y = v1 * 4294967296 + v0) (hr : q * v1 + r = u) (hQ : Q ≤ q) (hlt : u * 4294967296 + u1 < (Q + 1) * Y) (hpos : 0 < Y)
    (ht : q * v0 ≤ 4294967296 * r + u1) : q = Q := by
  have e : q * Y ≤ u * 4294967296 + u1 := by
    rw [hY, Int.mul_add, ← Int.mul_assoc, ← hr, Int.add_mul]
    omega
  have : q < Q + 1 := Int.lt_of_mul_lt_mul_right (Int.lt_of_le_of_lt e hlt) (by omega)
  omega
theorem stop' (q r v1 v0 u u1 Y Q : Int) (hY : Y = v1 * 4294967296 + v0) (hr : q * v1 + r = u) (hQ : Q ≤ q) (hlt : u * 4294967296 + u1 < (Q + 1) * Y) (hpos : 0 < Y)
    (h0 : 0 ≤ q) (hv0 : 0 ≤ v0) (hv0' : v0 < 4294967296) (hv1 : 1 ≤ v1) (huY : u < Y) (hu1 : 0 ≤ u1) (hbig : 4294967296 ≤ r) : q = Q := by
  refine stop q r v1 v0 u u1 Y Q hY hr hQ hlt hpos ?_
  have hq : q < 4294967296 := by
    refine Int.lt_of_mul_lt_mul_right (a := v1) ?_ (by omega)
    omega
  have h1 : q * v0 ≤ 4294967295 * 4294967295 := Int.mul_le_mul (by omega) (by omega) hv0 (by omega)
  omega
theorem less (q r v1 v0 u u1 Y Q : Int) (hY : Y = v1 * 4294967296 + v0) (hr : q * v1 + r = u) (hQ : Q ≤ q) (hle : Q * Y ≤ u * 4294967296 + u1) (hpos : 0 < Y) (hu1 : u1 < 4294967296) (huY : u < Y)
    (ht : 4294967296 ≤ q ∨ 4294967296 * r + u1 < q * v0) : Q ≤ q - 1 := by
  have hne : q ≠ Q := by
    intro e
    subst e
    rcases ht with h | h
    · have : 4294967296 * Y ≤ q * Y := Int.mul_le_mul_of_nonneg_right h (by omega)
      omega
    · rw [hY, Int.mul_add, ← Int.mul_assoc, ← hr, Int.add_mul] at hle
      omega
  omega
theorem next (q r v1 u : Int) (hr : q * v1 + r = u) : (q - 1) * v1 + (r + v1) = u := by rw [Int.sub_mul]; omega
theorem guess (v1 v0 u u1 Y Q q : Int) (hY : Y = v1 * 4294967296 + v0) (hv0 : 0 ≤ v0) (hv0' : v0 < 4294967296) (hv1 : 2147483648 ≤ v1) (hu : 0 ≤ u) (huY : u < Y) (hu1 : u1 < 4294967296)
    (hQ0 : 0 ≤ Q) (hle : Q * Y ≤ u * 4294967296 + u1) (hq : u / v1 = q) :
    Q ≤ q ∧ 0 ≤ q ∧ q ≤ 4294967298 ∧ 0 ≤ q * v1 ∧ q * v1 ≤ u ∧ u - q * v1 < v1 := by
  have hm := Int.mul_ediv_add_emod u v1
  have h1 := Int.emod_nonneg u (show v1 ≠ 0 by omega)
  have h2 := Int.emod_lt_of_pos u (show 0 < v1 by omega)
  have hq0 : 0 ≤ u / v1 := Int.ediv_nonneg hu (by omega)
  rw [hq] at hm hq0
  rw [Int.mul_comm] at hm
  have h3 : 0 ≤ q * v1 := Int.mul_nonneg hq0 (by omega)
  refine ⟨?_, hq0, ?_, h3, by omega, by omega⟩
  · have a : Q * (v1 * 4294967296) ≤ Q * Y := Int.mul_le_mul_of_nonneg_left (by omega) hQ0
    rw [← Int.mul_assoc] at a
    have b : Q * v1 ≤ u := by omega
    have : Q * v1 < (q + 1) * v1 := by rw [Int.add_mul]; omega
    have := Int.lt_of_mul_lt_mul_right this (by omega)
    omega
  · refine Int.not_lt.1 fun hlt => ?_
    have : 4294967299 * v1 ≤ q * v1 := Int.mul_le_mul_of_nonneg_right (by omega) (by omega)
    omega
theorem digit (u u1 Y Q : Int) (h0 : 0 < Y) (hu : 0 ≤ u) (hu1 : 0 ≤ u1) (hu1' : u1 < 4294967296) (huY : u < Y) (hQ : (u * 4294967296 + u1) / Y = Q) :
    0 ≤ Q ∧ Q ≤ 4294967295 ∧ Q * Y ≤ u * 4294967296 + u1 ∧ u * 4294967296 + u1 < (Q + 1) * Y ∧ 0 ≤ u * 4294967296 + u1 - Q * Y ∧ u * 4294967296 + u1 - Q * Y < Y := by
  have hm := Int.mul_ediv_add_emod (u * 4294967296 + u1) Y
  have h1 := Int.emod_nonneg (u * 4294967296 + u1) (show Y ≠ 0 by omega)
  have h2 := Int.emod_lt_of_pos (u * 4294967296 + u1) h0
  have hq0 : 0 ≤ (u * 4294967296 + u1) / Y := Int.ediv_nonneg (by omega) (by omega)
  rw [hQ] at hm hq0
  rw [Int.mul_comm] at hm
  have e : (Q + 1) * Y = Q * Y + Y := by rw [Int.add_mul, Int.one_mul]
  refine ⟨hq0, ?_, by omega, by omega, by omega, by omega⟩
  refine Int.not_lt.1 fun hlt => ?_
  have : 4294967296 * Y ≤ Q * Y := Int.mul_le_mul_of_nonneg_right (by omega) (by omega)
  omega
theorem prod_bd (q v0 : Int) (h0 : 0 ≤ q) (hq : q < 4294967296) (hv : 0 ≤ v0) (hv' : v0 ≤ 4294967295) : 0 ≤ q * v0 ∧ q * v0 ≤ 18446744065119617025 :=
  ⟨Int.mul_nonneg h0 hv, by have := Int.mul_le_mul (show q ≤ 4294967295 by omega) hv' hv (by omega); omega⟩
end Go.Proofs.Ytejliecmdkmgiaa.dv
namespace Go.Proofs.Ytejliecmdkmgiaa
open Go.RowKit
theorem LeadingZeros64_any (x : Int) (w : World) (h0 : 0 ≤ x) (h1 : x ≤ 18446744073709551615) :
    Calls Try.prog 195 #[.int .u64 x] w fun e w' => e = .returned (.int .i64 (64 - (Lib.bitLen x.toNat : Int))) ∧ w = w' := by
  have l := Lib.bitLen_le x.toNat 64 (by omega) (by omega)
  go_enter Try.func195, Try.ntmps195
  go_wp2_with (go_at_call 163; refine (Len64_any x _ h0 h1).mono ?_; rintro e w' ⟨rfl, rfl⟩)
  go_ret
  exact ⟨rfl, rfl⟩
theorem Div64_core (hi lo y : Int) (w : World) (h0 : 1 ≤ hi) (h1 : hi < y) (h2 : y ≤ 18446744073709551615) (h3 : 0 ≤ lo) (h4 : lo ≤ 18446744073709551615) (s : Nat) (hs : s < 64)
    (hs1 : Hid (64 - (Lib.bitLen y.toNat : Int) = s)) (Y v1 v0 A u L un1 un0 Q Q2 a1 a2 a3 u2 b1 b2 b3 b4 rem : Int)
    (hY : IntKind.u64.wrap (y * 2 ^ s) = Y) (hv1 : Y / 4294967296 = v1) (hv0 : bits BinOp.and IntKind.u64 Y 4294967295 = v0) (hA : IntKind.u64.wrap (hi * 2 ^ s) = A)
    (hu : bits BinOp.or IntKind.u64 A (lo / 2 ^ (64 - s)) = u) (hL : IntKind.u64.wrap (lo * 2 ^ s) = L) (hun1 : L / 4294967296 = un1) (hun0 : bits BinOp.and IntKind.u64 L 4294967295 = un0)
    (ha1 : IntKind.u64.wrap (u * 4294967296) = a1) (ha2 : IntKind.u64.wrap (a1 + un1) = a2) (ha3 : IntKind.u64.wrap (Q * Y) = a3) (ha4 : IntKind.u64.wrap (a2 - a3) = u2)
    (hb1 : IntKind.u64.wrap (u2 * 4294967296) = b1) (hb2 : IntKind.u64.wrap (b1 + un0) = b2) (hb3 : IntKind.u64.wrap (Q2 * Y) = b3) (hb4 : IntKind.u64.wrap (b2 - b3) = b4)
    (hrem : b4 / 2 ^ s = rem)
    (cY : 1 ≤ Y) (cY' : Y ≤ 18446744073709551615) (cv1 : 2147483648 ≤ v1) (cv1' : v1 ≤ 4294967295) (cv0 : 0 ≤ v0) (cv0' : v0 ≤ 4294967295) (cu : 0 ≤ u) (cuY : u < Y) (cL : 0 ≤ L) (cL' : L ≤ 18446744073709551615)
    (cun1 : 0 ≤ un1) (cun1' : un1 ≤ 4294967295) (cun0 : 0 ≤ un0) (cun0' : un0 ≤ 4294967295) (cu2 : 0 ≤ u2) (cu2Y : u2 < Y) (cb4 : 0 ≤ b4) (cb4' : b4 ≤ 18446744073709551615)
    (HY : Hid (Y = v1 * 4294967296 + v0)) (HQ : Hid ((u * 4294967296 + un1) / Y = Q)) (HQ2 : Hid ((u2 * 4294967296 + un0) / Y = Q2)) :
    Calls Try.prog 194 #[.int .u64 hi, .int .u64 lo, .int .u64 y] w fun e w' => e = .returned (.tuple #[.int .u64 (Q * 4294967296 + Q2), .int .u64 rem]) ∧ w = w' := by
  have y0 : (y == 0) = false := beq_eq_false_iff_ne.2 (by omega)
  have hi0 : (hi == 0) = false := beq_eq_false_iff_ne.2 (by omega)
  obtain ⟨d1, d2, d3, d4, -, -⟩ := dv.digit u un1 Y Q (by omega) cu cun1 (by omega) cuY HQ.out
  obtain ⟨e1, e2, e3, e4, -, -⟩ := dv.digit u2 un0 Y Q2 (by omega) cu2 cun0 (by omega) cu2Y HQ2.out
  obtain ⟨g1, g2, g3, g4, g5, g6⟩ := dv.guess v1 v0 u un1 Y Q _ HY.out cv0 (by omega) cv1 cu cuY (by omega) d1 d3 rfl
  obtain ⟨k1, k2, k3, k4, k5, k6⟩ := dv.guess v1 v0 u2 un0 Y Q2 _ HY.out cv0 (by omega) cv1 cu2 cu2Y (by omega) e1 e3 rfl
  have D3 := Lib.hid d3
  have D4 := Lib.hid d4
  have E3 := Lib.hid e3
  have E4 := Lib.hid e4
  clear d3 d4 e3 e4
  go_enter Try.func194, Try.ntmps194
  go_wp2_with (go_at_call 195; refine (LeadingZeros64_any y _ (by omega) h2).mono ?_; rintro e w' ⟨rfl, rfl⟩; rw [hs1.out])
  go_loop [15, 16] (fun qq rr => ∃ q r : Int, Q ≤ q ∧ q ≤ 4294967298 ∧ 0 ≤ r ∧ r < 4294967296 ∧ Hid (q * v1 + r = u) ∧ qq = .int .u64 q ∧ rr = .int .u64 r) (fun qq _ => (intOf qq).toNat)
  case atStart => exact ⟨u / v1, u - u / v1 * v1, g1, g3, by omega, by omega, (by show _ = _; omega), rfl, rfl⟩
  case round =>
    obtain ⟨q, r, r1, r2, r3, r4, r5, rfl, rfl⟩ := hrel
    by_cases hbig : 4294967296 ≤ q
    · have N := Lib.hid (dv.less q r v1 v0 u un1 Y Q HY.out r5.out r1 D3.out (by omega) (by omega) cuY (Or.inl hbig))
      by_cases hover : 4294967296 ≤ r + v1
      · have M := dv.stop' (q - 1) (r + v1) v1 v0 u un1 Y Q HY.out (dv.next q r v1 u r5.out) N.out D4.out (by omega) (by have := N.out; omega) cv0 (by omega) (by omega) cuY cun1 hover
        obtain rfl : q = Q + 1 := by omega
        go_wp2
        go_loop [18, 16] (fun qq rr => ∃ q r : Int, Q2 ≤ q ∧ q ≤ 4294967298 ∧ 0 ≤ r ∧ r < 4294967296 ∧ Hid (q * v1 + r = u2) ∧ qq = .int .u64 q ∧ rr = .int .u64 r) (fun qq _ => (intOf qq).toNat)
        case atStart => exact ⟨u2 / v1, u2 - u2 / v1 * v1, k1, k3, by omega, by omega, (by show _ = _; omega), rfl, rfl⟩
        case round =>
          obtain ⟨q, r, r1, r2, r3, r4, r5, rfl, rfl⟩ := hrel
          by_cases hbig : 4294967296 ≤ q
          · have N := Lib.hid (dv.less q r v1 v0 u2 un0 Y Q2 HY.out r5.out r1 E3.out (by omega) (by omega) cu2Y (Or.inl hbig))
            by_cases hover : 4294967296 ≤ r + v1
            · have M := dv.stop' (q - 1) (r + v1) v1 v0 u2 un0 Y Q2 HY.out (dv.next q r v1 u2 r5.out) N.out E4.out (by omega) (by have := N.out; omega) cv0 (by omega) (by omega) cu2Y cun0 hover
              obtain rfl : q = Q2 + 1 := by omega
              go_wp2
              go_ret2
              exact ⟨rfl, rfl⟩
            · go_wp2
              go_round
              case rel => exact ⟨q - 1, r + v1, N.out, by omega, by omega, by omega, dv.next q r v1 u2 r5.out, rfl, rfl⟩
              case measure => simp [intOf]; omega
          · obtain ⟨m1, m2⟩ := dv.prod_bd q v0 (by omega) (by omega) cv0 cv0'
            by_cases ht : 4294967296 * r + un0 < q * v0
            · have N := Lib.hid (dv.less q r v1 v0 u2 un0 Y Q2 HY.out r5.out r1 E3.out (by omega) (by omega) cu2Y (Or.inr ht))
              have hq1 : 1 ≤ q := by have := N.out; omega
              by_cases hover : 4294967296 ≤ r + v1
              · have M := dv.stop' (q - 1) (r + v1) v1 v0 u2 un0 Y Q2 HY.out (dv.next q r v1 u2 r5.out) N.out E4.out (by omega) (by have := N.out; omega) cv0 (by omega) (by omega) cu2Y cun0 hover
                obtain rfl : q = Q2 + 1 := by omega
                go_wp2
                go_ret2
                exact ⟨rfl, rfl⟩
              · go_wp2
                go_round
                case rel => exact ⟨q - 1, r + v1, N.out, by omega, by omega, by omega, dv.next q r v1 u2 r5.out, rfl, rfl⟩
                case measure => simp [intOf]; omega
            · obtain rfl := dv.stop q r v1 v0 u2 un0 Y Q2 HY.out r5.out r1 E4.out (by omega) (by omega)
              go_wp2
              go_ret2
              exact ⟨rfl, rfl⟩
      · go_wp2
        go_round
        case rel => exact ⟨q - 1, r + v1, N.out, by omega, by omega, by omega, dv.next q r v1 u r5.out, rfl, rfl⟩
        case measure => simp [intOf]; omega
    · obtain ⟨m1, m2⟩ := dv.prod_bd q v0 (by omega) (by omega) cv0 cv0'
      by_cases ht : 4294967296 * r + un1 < q * v0
      · have N := Lib.hid (dv.less q r v1 v0 u un1 Y Q HY.out r5.out r1 D3.out (by omega) (by omega) cuY (Or.inr ht))
        have hq1 : 1 ≤ q := by have := N.out; omega
        by_cases hover : 4294967296 ≤ r + v1
        · have M := dv.stop' (q - 1) (r + v1) v1 v0 u un1 Y Q HY.out (dv.next q r v1 u r5.out) N.out D4.out (by omega) (by have := N.out; omega) cv0 (by omega) (by omega) cuY cun1 hover
          obtain rfl : q = Q + 1 := by omega
          go_wp2
          go_loop [18, 16] (fun qq rr => ∃ q r : Int, Q2 ≤ q ∧ q ≤ 4294967298 ∧ 0 ≤ r ∧ r < 4294967296 ∧ Hid (q * v1 + r = u2) ∧ qq = .int .u64 q ∧ rr = .int .u64 r) (fun qq _ => (intOf qq).toNat)
          case atStart => exact ⟨u2 / v1, u2 - u2 / v1 * v1, k1, k3, by omega, by omega, (by show _ = _; omega), rfl, rfl⟩
          case round =>
            obtain ⟨q, r, r1, r2, r3, r4, r5, rfl, rfl⟩ := hrel
            by_cases hbig : 4294967296 ≤ q
            · have N := Lib.hid (dv.less q r v1 v0 u2 un0 Y Q2 HY.out r5.out r1 E3.out (by omega) (by omega) cu2Y (Or.inl hbig))
              by_cases hover : 4294967296 ≤ r + v1
              · have M := dv.stop' (q - 1) (r + v1) v1 v0 u2 un0 Y Q2 HY.out (dv.next q r v1 u2 r5.out) N.out E4.out (by omega) (by have := N.out; omega) cv0 (by omega) (by omega) cu2Y cun0 hover
                obtain rfl : q = Q2 + 1 := by omega
                go_wp2
                go_ret2
                exact ⟨rfl, rfl⟩
              · go_wp2
                go_round
                case rel => exact ⟨q - 1, r + v1, N.out, by omega, by omega, by omega, dv.next q r v1 u2 r5.out, rfl, rfl⟩
                case measure => simp [intOf]; omega
            · obtain ⟨m1, m2⟩ := dv.prod_bd q v0 (by omega) (by omega) cv0 cv0'
              by_cases ht : 4294967296 * r + un0 < q * v0
              · have N := Lib.hid (dv.less q r v1 v0 u2 un0 Y Q2 HY.out r5.out r1 E3.out (by omega) (by omega) cu2Y (Or.inr ht))
                have hq1 : 1 ≤ q := by have := N.out; omega
                by_cases hover : 4294967296 ≤ r + v1
                · have M := dv.stop' (q - 1) (r + v1) v1 v0 u2 un0 Y Q2 HY.out (dv.next q r v1 u2 r5.out) N.out E4.out (by omega) (by have := N.out; omega) cv0 (by omega) (by omega) cu2Y cun0 hover
                  obtain rfl : q = Q2 + 1 := by omega
                  go_wp2
                  go_ret2
                  exact ⟨rfl, rfl⟩
                · go_wp2
                  go_round
                  case rel => exact ⟨q - 1, r + v1, N.out, by omega, by omega, by omega, dv.next q r v1 u2 r5.out, rfl, rfl⟩
                  case measure => simp [intOf]; omega
              · obtain rfl := dv.stop q r v1 v0 u2 un0 Y Q2 HY.out r5.out r1 E4.out (by omega) (by omega)
                go_wp2
                go_ret2
                exact ⟨rfl, rfl⟩
        · go_wp2
          go_round
          case rel => exact ⟨q - 1, r + v1, N.out, by omega, by omega, by omega, dv.next q r v1 u r5.out, rfl, rfl⟩
          case measure => simp [intOf]; omega
      · obtain rfl := dv.stop q r v1 v0 u un1 Y Q HY.out r5.out r1 D4.out (by omega) (by omega)
        go_wp2
        go_loop [18, 16] (fun qq rr => ∃ q r : Int, Q2 ≤ q ∧ q ≤ 4294967298 ∧ 0 ≤ r ∧ r < 4294967296 ∧ Hid (q * v1 + r = u2) ∧ qq = .int .u64 q ∧ rr = .int .u64 r) (fun qq _ => (intOf qq).toNat)
        case atStart => exact ⟨u2 / v1, u2 - u2 / v1 * v1, k1, k3, by omega, by omega, (by show _ = _; omega), rfl, rfl⟩
        case round =>
          obtain ⟨q, r, r1, r2, r3, r4, r5, rfl, rfl⟩ := hrel
          by_cases hbig : 4294967296 ≤ q
          · have N := Lib.hid (dv.less q r v1 v0 u2 un0 Y Q2 HY.out r5.out r1 E3.out (by omega) (by omega) cu2Y (Or.inl hbig))
            by_cases hover : 4294967296 ≤ r + v1
            · have M := dv.stop' (q - 1) (r + v1) v1 v0 u2 un0 Y Q2 HY.out (dv.next q r v1 u2 r5.out) N.out E4.out (by omega) (by have := N.out; omega) cv0 (by omega) (by omega) cu2Y cun0 hover
              obtain rfl : q = Q2 + 1 := by omega
              go_wp2
              go_ret2
              exact ⟨rfl, rfl⟩
            · go_wp2
              go_round
              case rel => exact ⟨q - 1, r + v1, N.out, by omega, by omega, by omega, dv.next q r v1 u2 r5.out, rfl, rfl⟩
              case measure => simp [intOf]; omega
          · obtain ⟨m1, m2⟩ := dv.prod_bd q v0 (by omega) (by omega) cv0 cv0'
            by_cases ht : 4294967296 * r + un0 < q * v0
            · have N := Lib.hid (dv.less q r v1 v0 u2 un0 Y Q2 HY.out r5.out r1 E3.out (by omega) (by omega) cu2Y (Or.inr ht))
              have hq1 : 1 ≤ q := by have := N.out; omega
              by_cases hover : 4294967296 ≤ r + v1
              · have M := dv.stop' (q - 1) (r + v1) v1 v0 u2 un0 Y Q2 HY.out (dv.next q r v1 u2 r5.out) N.out E4.out (by omega) (by have := N.out; omega) cv0 (by omega) (by omega) cu2Y cun0 hover
                obtain rfl : q = Q2 + 1 := by omega
                go_wp2
                go_ret2
                exact ⟨rfl, rfl⟩
              · go_wp2
                go_round
                case rel => exact ⟨q - 1, r + v1, N.out, by omega, by omega, by omega, dv.next q r v1 u2 r5.out, rfl, rfl⟩
                case measure => simp [intOf]; omega
            · obtain rfl := dv.stop q r v1 v0 u2 un0 Y Q2 HY.out r5.out r1 E4.out (by omega) (by omega)
              go_wp2
              go_ret2
              exact ⟨rfl, rfl⟩
end Go.Proofs.Ytejliecmdkmgiaa
namespace Go.Proofs.Ytejliecmdkmgiaa
open Go.RowKit
theorem dv.unscale (n q y P Y b : Int) (hP : 0 < P) (hy : 0 < y) (hY : Y = y * P) (hn : n * P = q * Y + b) (h0 : 0 ≤ b) (hb : b < Y) : q = n / y ∧ b / P = n % y := by
  have e : b = (n - q * y) * P := by rw [Int.sub_mul, hn, hY]; rw [Int.mul_assoc]; omega
  have hr : b / P = n - q * y := by rw [e]; exact Int.mul_ediv_cancel _ (by omega)
  have r0 : 0 ≤ n - q * y := by
    refine Int.not_lt.1 fun h => ?_
    have := Int.mul_lt_mul_of_pos_right h hP
    rw [← e] at this; omega
  have r1 : n - q * y < y := by
    refine Int.not_le.1 fun h => ?_
    have := Int.mul_le_mul_of_nonneg_right h (show 0 ≤ P by omega)
    rw [← e] at this; omega
  have hq : n / y = q := by
    have : n = (n - q * y) + q * y := by omega
    rw [this, Int.add_mul_ediv_right _ _ (by omega), Int.ediv_eq_zero_of_lt r0 r1]; omega
  refine ⟨hq.symm, ?_⟩
  rw [hr, Int.emod_def, hq, Int.mul_comm]
theorem bits_split (y : Nat) (h0 : 0 < y) (h1 : y < 18446744073709551616) : ∃ s : Nat, s < 64 ∧ 64 - (Lib.bitLen y : Int) = s ∧ 9223372036854775808 ≤ y * 2 ^ s ∧ y * 2 ^ s < 18446744073709551616 := by
  obtain ⟨a, b, c⟩ := num.bitLen_bounds 64 y h0 h1 (by omega)
  have d := Lib.bitLen_le y 64 (by omega) h1
  have e : 2 ^ Lib.bitLen y * 2 ^ (64 - Lib.bitLen y) = 2 ^ 64 := by rw [← Nat.pow_add]; congr 1; omega
  have p : 0 < 2 ^ (64 - Lib.bitLen y) := Nat.pow_pos (by omega)
  refine ⟨64 - Lib.bitLen y, by omega, by omega, ?_, ?_⟩
  · have := Nat.mul_le_mul_right (2 ^ (64 - Lib.bitLen y)) c
    rw [e, Nat.mul_assoc] at this; omega
  · have := Nat.mul_lt_mul_of_pos_right b p
    rw [e] at this; omega
theorem Div64_any (hi lo y : Int) (w : World) (h0 : 0 ≤ hi) (h1 : hi < y) (h2 : y ≤ 18446744073709551615) (h3 : 0 ≤ lo) (h4 : lo ≤ 18446744073709551615) :
    Calls Try.prog 194 #[.int .u64 hi, .int .u64 lo, .int .u64 y] w fun e w' =>
      e = .returned (.tuple #[.int .u64 ((hi * 18446744073709551616 + lo) / y), .int .u64 ((hi * 18446744073709551616 + lo) % y)]) ∧ ∃ n, w' = w.drewN n := by
  by_cases hz : hi = 0
  · subst hz
    have y0 : (y == 0) = false := beq_eq_false_iff_ne.2 (by omega)
    go_enter Try.func194, Try.ntmps194
    go_wp2_with fail
    go_quiet (fail)
    go_wp2_with fail
    go_ret2
    exact ⟨by simp, _, rfl⟩
  · obtain ⟨hi, rfl⟩ := Int.eq_ofNat_of_zero_le h0
    obtain ⟨lo, rfl⟩ := Int.eq_ofNat_of_zero_le h3
    obtain ⟨y, rfl⟩ := Int.eq_ofNat_of_zero_le (show 0 ≤ y by omega)
    obtain ⟨s, s1, s2, s3, s4⟩ := bits_split y (by omega) (by omega)
    have hP : (2 : Int) ^ s = ((2 ^ s : Nat) : Int) := by simp
    have hR : (2 : Int) ^ (64 - s) = ((2 ^ (64 - s) : Nat) : Int) := by simp
    have hPR : 2 ^ (64 - s) * 2 ^ s = 18446744073709551616 := by rw [← Nat.pow_add, show 64 - s + s = 64 by omega]
    have p0 : 0 < 2 ^ s := Nat.pow_pos (by omega)
    have p1 : 0 < 2 ^ (64 - s) := Nat.pow_pos (by omega)
    have hor := num.or_apart hi (lo / 2 ^ (64 - s)) s
    obtain ⟨P, eP⟩ : ∃ P, P = 2 ^ s := ⟨_, rfl⟩
    obtain ⟨R, eR⟩ : ∃ R, R = 2 ^ (64 - s) := ⟨_, rfl⟩
    rw [← eP, ← eR] at hor
    rw [← eP] at hP hPR p0 s3 s4
    rw [← eR] at hR hPR p1
    have e1 : R * (lo / R) + lo % R = lo := Nat.div_add_mod lo R
    have e2 : lo % R < R := Nat.mod_lt _ p1
    obtain ⟨a, ea⟩ : ∃ a, a = lo / R := ⟨_, rfl⟩
    obtain ⟨b, eb⟩ : ∃ b, b = lo % R := ⟨_, rfl⟩
    rw [← ea, ← eb] at e1
    rw [← eb] at e2
    rw [← ea] at hor
    have haP : a < P := by
      refine Nat.lt_of_not_le fun h => ?_
      have := Nat.mul_le_mul_left R h
      omega
    have hbP : b * P < 18446744073709551616 := by rw [← hPR]; exact Nat.mul_lt_mul_of_pos_right e2 p0
    have hlo : lo * P = a * 18446744073709551616 + b * P := by
      rw [← e1, Nat.add_mul, ← hPR, Nat.mul_comm R a, Nat.mul_assoc]
    have huY : hi * P + a < y * P := by
      have : (hi + 1) * P ≤ y * P := Nat.mul_le_mul_right P (by omega)
      rw [Nat.add_mul, Nat.one_mul] at this
      omega
    have hor' := hor haP (by omega)
    obtain ⟨Y, eY⟩ : ∃ Y : Int, Y = ((y * P : Nat) : Int) := ⟨_, rfl⟩
    obtain ⟨u, eu⟩ : ∃ u : Int, u = ((hi * P + a : Nat) : Int) := ⟨_, rfl⟩
    obtain ⟨L, eL⟩ : ∃ L : Int, L = ((b * P : Nat) : Int) := ⟨_, rfl⟩
    obtain ⟨Q, eQ⟩ : ∃ Q : Int, (u * 4294967296 + L / 4294967296) / Y = Q := ⟨_, rfl⟩
    obtain ⟨d1, d2, d3, d4, d5, d6⟩ := dv.digit u (L / 4294967296) Y Q (by omega) (by omega) (by omega) (by omega) (by omega) eQ
    obtain ⟨u2, eu2⟩ : ∃ u2 : Int, u2 = u * 4294967296 + L / 4294967296 - Q * Y := ⟨_, rfl⟩
    obtain ⟨Q2, eQ2⟩ : ∃ Q2 : Int, (u2 * 4294967296 + L % 4294967296) / Y = Q2 := ⟨_, rfl⟩
    obtain ⟨f1, f2, f3, f4, f5, f6⟩ := dv.digit u2 (L % 4294967296) Y Q2 (by omega) (by omega) (by omega) (by omega) (by omega) eQ2
    obtain ⟨b4, eb4⟩ : ∃ b4 : Int, b4 = u2 * 4294967296 + L % 4294967296 - Q2 * Y := ⟨_, rfl⟩
    have hw (x : Int) : IntKind.u64.wrap x = x % 18446744073709551616 := IntKind.wrap_u64 x
    refine (Div64_core hi lo y w (by omega) (by omega) h2 h3 h4 s s1 (Lib.hid s2) Y (Y / 4294967296) (Y % 4294967296) ((hi * P : Nat) : Int) u L (L / 4294967296) (L % 4294967296) Q Q2
      (u * 4294967296 % 18446744073709551616) ((u * 4294967296 % 18446744073709551616 + L / 4294967296) % 18446744073709551616) (Q * Y % 18446744073709551616) u2
      (u2 * 4294967296 % 18446744073709551616) ((u2 * 4294967296 % 18446744073709551616 + L % 4294967296) % 18446744073709551616) (Q2 * Y % 18446744073709551616) b4 (b4 / 2 ^ s)
      ?_ rfl ?_ ?_ ?_ ?_ rfl ?_ (hw _) (hw _) (hw _) ?_ (hw _) (hw _) (hw _) ?_ rfl (by omega) (by omega) (by omega) (by omega) (by omega) (by omega) (by omega) (by omega) (by omega) (by omega)
      (by omega) (by omega) (by omega) (by omega) (by omega) (by omega) (by omega) (by omega) (Lib.hid (by omega)) (Lib.hid eQ) (Lib.hid eQ2)).mono ?_
    · rw [hw, hP, eY, ← Int.natCast_mul]; omega
    · exact num.and32 Y (by omega) (by omega)
    · rw [hw, hP, ← Int.natCast_mul]; omega
    · rw [hR, eu, ← Int.natCast_ediv, ← ea]; exact hor'
    · rw [hw, hP, eL, ← Int.natCast_mul, hlo]; omega
    · exact num.and32 L (by omega) (by omega)
    · rw [hw, eu2]; omega
    · rw [hw, eb4]; omega
    · rintro e w' ⟨rfl, rfl⟩
      have key : (hi * 18446744073709551616 + lo) * P = (Q * 4294967296 + Q2) * Y + b4 := by
        have h5 : ((lo * P : Nat) : Int) = a * 18446744073709551616 + L := by rw [hlo, eL]; simp
        have h6 : u = hi * P + a := by rw [eu]; simp
        rw [Int.natCast_mul] at h5
        rw [Int.add_mul, h5, Int.add_mul, Int.mul_right_comm Q, eb4]
        have h7 : (hi : Int) * 18446744073709551616 * P = (u - a) * 18446744073709551616 := by rw [h6, Int.mul_right_comm]; omega
        rw [h7]
        omega
      obtain ⟨g1, g2⟩ := dv.unscale (hi * 18446744073709551616 + lo) (Q * 4294967296 + Q2) y P Y b4 (by omega) (by omega) (by rw [eY]; simp) key (by omega) (by omega)
      exact ⟨by rw [hP, g1, g2], 0, rfl⟩
end Go.Proofs.Ytejliecmdkmgiaa
namespace Go.Proofs.Ytejliecmdkmgiaa
open Go.RowKit
theorem shl_or {x c : Int} {s : Nat} (hs : s < 64) (hx : 0 ≤ x ∧ x < 18446744073709551616) (hc : 0 ≤ c ∧ c < 2 ^ s) : bits .or .u64 (IntKind.u64.wrap (x * 2 ^ s)) c = (x * 2 ^ s + c) % 18446744073709551616 := by
  obtain ⟨-, e2, e3, -, -, e6⟩ := sh_word hs hx hc
  rw [IntKind.wrap_u64, e2, e3]
  rw [← e3] at e6
  have hp := pow_pos' (show (0 : Int) < 2 by omega) (64 - s)
  have h0 : 0 ≤ x % 2 ^ (64 - s) := Int.emod_nonneg _ (by omega)
  rw [e3] at e6
  obtain ⟨A, eA⟩ := Int.eq_ofNat_of_zero_le h0
  obtain ⟨C, rfl⟩ := Int.eq_ofNat_of_zero_le hc.1
  rw [eA] at e6 ⊢
  have hP : (2 : Int) ^ s = ((2 ^ s : Nat) : Int) := by simp
  rw [hP] at hc e6 ⊢
  have h1 : A * 2 ^ s + C < 18446744073709551616 := by
    have : ((A * 2 ^ s + C : Nat) : Int) < 18446744073709551616 := by rw [Int.natCast_add, Int.natCast_mul]; exact e6
    omega
  have := num.or_apart A C s (by omega) h1
  rw [Int.natCast_mul, Int.natCast_add, Int.natCast_mul] at this
  exact this
theorem or_zero {c : Int} (hc : 0 ≤ c ∧ c < 18446744073709551616) : bits .or .u64 0 c = c := by
  obtain ⟨C, rfl⟩ := Int.eq_ofNat_of_zero_le hc.1
  have := u64_or_nat 0 C (by omega) (by omega)
  rw [Nat.zero_or] at this
  exact this
theorem shifted_any (al : Option Addr) (m cl n s : Nat) (l : Nat → Int) (w : World) (hs : s < 64) (hn : n ≤ 17592186044416) (hl : RdW w (.slice al m cl) m l) :
    Calls Try.prog 196 #[.slice al m cl, .int .u64 s, .int .i64 n] w fun e w' => ∃ b, e = .returned (.slice (some ⟨b, 0, none⟩) n n) ∧ FrR w' w.heap.size b n (shd (zw l m) s) ∧ Below w.heap.size w w' := by
  obtain ⟨_, _, e2, g1, g2, g3⟩ := wd_get hl.1
  simp only [Value.slice.injEq, true_and] at e2
  obtain ⟨rfl, rfl⟩ := e2
  have hlb := words_bd hl.2
  obtain ⟨X, hX⟩ : ∃ X, X = zw l m := ⟨_, rfl⟩
  rw [← hX]
  have hXb : ∀ i, 0 ≤ X i ∧ X i < 18446744073709551616 := fun i => by rw [hX]; exact zw_bd (by omega) hlb i
  have hX0 : ∀ i, m ≤ i → X i = 0 := fun i hi => by rw [hX]; exact if_neg (by omega)
  have hXl : ∀ i, i < m → X i = l i := fun i hi => by rw [hX]; exact if_pos hi
  have mk := mk_words n hn
  have G3 := Lib.hid g3
  have HXB := Lib.hid hXb
  have HX0 := Lib.hid hX0
  have HXL := Lib.hid hXl
  clear g3 hXb hX0 hXl hlb hl hX
  go_enter Try.func196, Try.ntmps196
  go_wp2_with fail
  have hr0 := (CellsAt.row (f := fun _ => 0) (CellsAt.made w (.int .u64 0) n 62))
  have hk0 := Blk.made w (.int .u64 0) n 62
  have hg0 := World.grownBy_alloc w (.cells (madeCells #[.int .u64 0] n) 62) (some w.heap.size)
  have HR0 := Lib.hid hr0
  have HK0 := Lib.hid hk0
  have HG0 := Lib.hid hg0
  clear hr0 hk0 hg0 mk
  generalize w.alloc (.cells (madeCells #[.int .u64 0] n) 62) = w4 at HR0 HK0 HG0 ⊢
  go_loopw [8, 15] (fun cv iv wr => ∃ i : Nat, i ≤ n ∧ iv = .int .i64 i ∧ cv = .int .u64 (shc X s i) ∧ RowAt .u64 wr w.heap.size 0 n (fun t => if t < i then shd X s t else 0) ∧ Blk wr w.heap.size n 62 ∧ w.grownBy wr (some w.heap.size)) (fun _ iv _ => n - (intOf iv).toNat)
  case atStart => exact ⟨0, Nat.zero_le _, rfl, rfl, HR0.out.congr fun i _ => (if_neg (by omega)).symm, HK0.out, HG0.out⟩
  case round =>
    clear HR0 HG0 HK0
    obtain ⟨i, i1, rfl, rfl, hrow, hblk, hgr⟩ := hrel
    obtain ⟨c0, c1⟩ := shc_bd (l := X) hs i (fun k _ => HXB.out k)
    obtain ⟨c, hc⟩ : ∃ c, c = shc X s i := ⟨_, rfl⟩
    rw [← hc] at c0 c1 ⊢
    have HC := Lib.hid hc
    clear hc
    by_cases hi : i < n
    · obtain ⟨d1, d2⟩ := hrow.get0 (i := i) hi (x := 0) (if_neg (by omega))
      obtain ⟨x0, x1⟩ := HXB.out i
      have hsw := sh_word hs ⟨x0, x1⟩ ⟨c0, c1⟩
      have hpc : c < 18446744073709551616 := by
        have h1 := pow_le' (B := 2) (by omega) (show s ≤ 64 by omega)
        have h2 : (2 : Int) ^ 64 = 18446744073709551616 := by decide
        omega
      have hsd : Hid (shd X s i = (X i * 2 ^ s + c) % 18446744073709551616) := by show _ = _; rw [HC.out]; rfl
      have hsc : Hid (shc X s (i + 1) = (X i * 2 ^ s + c) / 18446744073709551616) := by show _ = _; rw [HC.out]; rfl
      have hor := shl_or hs ⟨x0, x1⟩ ⟨c0, c1⟩
      have HROW := Lib.hid hrow
      have HBLK := Lib.hid hblk
      have HGR := Lib.hid hgr
      rw [hsw.1] at hsc
      by_cases hm : i < m
      · obtain ⟨b, o, rfl, hcx⟩ := G3.out i hm
        have hcx := gcell hgr (Nat.le_refl _) hcx
        rw [← HXL.out i hm] at hcx
        obtain ⟨x, hx⟩ : ∃ x, x = X i := ⟨_, rfl⟩
        rw [← hx] at hcx x0 x1 hsd hsc hor
        obtain ⟨y, hy⟩ : ∃ y, y = (x * 2 ^ s + c) % 18446744073709551616 := ⟨_, rfl⟩
        rw [← hy] at hsd hor
        have HOR := Lib.hid hor
        clear hx hrow hblk hgr hsw hor hy
        by_cases hs0 : s = 0
        · have hsg : ((s : Int) > 0) = False := by simp [hs0]
          have hz : Hid (shc X s (i + 1) = 0) := by
            show _ = _
            rw [hsc.out, hs0]; show x / 18446744073709551616 = 0; omega
          have hs0' : ¬ ((0 : Int) < s) := by omega
          clear hs0
          go_wp2_with fail
          go_roundw
          case rel => exact ⟨i + 1, by omega, by go_num, by rw [hz.out], (HROW.out.set0 hi _).congr fun t _ => by
            rw [HOR.out]
            by_cases e : t = i
            · rw [if_pos e, if_pos (by omega), e, hsd.out]
            · rw [if_neg e]
              by_cases e2 : t < i
              · rw [if_pos e2, if_pos (by omega)]
              · rw [if_neg e2, if_neg (by omega)], HBLK.out.set _ _, gb_trans HGR.out (gb_set _ _ _)⟩
          case measure => simp [intOf]; omega
        · have hs1 : (0 : Int) < s := by omega
          clear hs0
          go_wp2_with fail
          go_roundw
          case rel => exact ⟨i + 1, by omega, by go_num, by rw [hsc.out], (HROW.out.set0 hi _).congr fun t _ => by
            rw [HOR.out]
            by_cases e : t = i
            · rw [if_pos e, if_pos (by omega), e, hsd.out]
            · rw [if_neg e]
              by_cases e2 : t < i
              · rw [if_pos e2, if_pos (by omega)]
              · rw [if_neg e2, if_neg (by omega)], HBLK.out.set _ _, gb_trans HGR.out (gb_set _ _ _)⟩
          case measure => simp [intOf]; omega
      · have hx0 := HX0.out i (by omega)
        rw [hx0, Int.zero_mul, Int.zero_add] at hsd
        rw [hx0, Int.zero_ediv] at hsc
        have hsd : Hid (shd X s i = c) := by show _ = _; rw [hsd.out]; omega
        have hor0 := or_zero ⟨c0, hpc⟩
        clear hx0 hrow hblk hgr hsw hor x0 x1
        by_cases hs0 : s = 0
        · have hs0' : ¬ ((0 : Int) < s) := by omega
          clear hs0
          go_wp2_with fail
          go_roundw
          case rel => exact ⟨i + 1, by omega, by go_num, by rw [hsc.out], (HROW.out.set0 hi _).congr fun t _ => by
            (try rw [hor0])
            by_cases e : t = i
            · rw [if_pos e, if_pos (by omega), e, hsd.out]
            · rw [if_neg e]
              by_cases e2 : t < i
              · rw [if_pos e2, if_pos (by omega)]
              · rw [if_neg e2, if_neg (by omega)], HBLK.out.set _ _, gb_trans HGR.out (gb_set _ _ _)⟩
          case measure => simp [intOf]; omega
        · have hs1 : (0 : Int) < s := by omega
          clear hs0
          go_wp2_with fail
          go_roundw
          case rel => exact ⟨i + 1, by omega, by go_num, by rw [hsc.out], (HROW.out.set0 hi _).congr fun t _ => by
            (try rw [hor0])
            by_cases e : t = i
            · rw [if_pos e, if_pos (by omega), e, hsd.out]
            · rw [if_neg e]
              by_cases e2 : t < i
              · rw [if_pos e2, if_pos (by omega)]
              · rw [if_neg e2, if_neg (by omega)], HBLK.out.set _ _, gb_trans HGR.out (gb_set _ _ _)⟩
          case measure => simp [intOf]; omega
    · obtain rfl : i = n := by omega
      have hf := Lib.hid (show FrR wr w.heap.size w.heap.size i (shd X s) from ⟨Nat.le_refl _, hblk, hrow.congr fun t ht => if_pos ht, fun t _ => shd_bd _ _ _⟩)
      have hb := Lib.hid (show Below w.heap.size w wr from (Below.refl _ w).grown hgr (Nat.le_refl _) (fun k hk => by injection hk with hk; omega))
      clear hrow hblk hgr
      go_wp2_with fail
      go_ret
      exact ⟨_, rfl, hf.out, hb.out⟩
end Go.Proofs.Ytejliecmdkmgiaa
namespace Go.Proofs.Ytejliecmdkmgiaa
structure Ldiv (X V : Int) (U q : Nat → Int) (N n k : Nat) : Prop where
  top : dv 18446744073709551616 (fun i => U (k + i)) n < V
  zero : ∀ t, k + n ≤ t → t < N + n → U t = 0
  sum : X = dv 18446744073709551616 U (N + n) + V * (18446744073709551616 ^ k * dv 18446744073709551616 (fun i => q (k + i)) (N - k))
  bd : ∀ t, t < N + n → 0 ≤ U t ∧ U t < 18446744073709551616
  qb : ∀ t, k ≤ t → t < N → 0 ≤ q t ∧ q t < 18446744073709551616
section
variable {X V : Int} {U q : Nat → Int} {N n k : Nat}
theorem Ldiv.win {j : Nat} (h : Ldiv X V U q N n (j + 1)) (hj : j < N) : 0 ≤ dv 18446744073709551616 (fun i => U (j + i)) (n + 1) ∧ dv 18446744073709551616 (fun i => U (j + i)) (n + 1) < V * 18446744073709551616 ∧
    dv 18446744073709551616 (fun i => U (j + i)) (n + 1) = U j + 18446744073709551616 * dv 18446744073709551616 (fun i => U (j + 1 + i)) n := by
  have e : dv 18446744073709551616 (fun i => U (j + i)) (n + 1) = U j + 18446744073709551616 * dv 18446744073709551616 (fun i => U (j + 1 + i)) n := by
    rw [Nat.add_comm n 1, dv_split]
    simp only [dv, Nat.add_zero, Int.pow_zero, Int.mul_one, Int.zero_add, Int.pow_succ, Int.one_mul]
    congr 2
    exact dv_congr fun i _ => by rw [Nat.add_assoc]
  have h1 := h.top
  have h2 := h.bd j (by omega)
  have h3 := (dv_bd (B := 18446744073709551616) (f := fun i => U (j + 1 + i)) (n := n) (by omega) (fun i hi => h.bd (j + 1 + i) (by omega))).1
  exact ⟨by omega, by omega, e⟩
theorem Ldiv.head {j m : Nat} {v : Nat → Int} (h : Ldiv X V U q N (m + 1) (j + 1)) (hj : j < N) (hv : ∀ i, i < m + 1 → 0 ≤ v i ∧ v i < 18446744073709551616) (hV : V = dv 18446744073709551616 v (m + 1)) : U (j + (m + 1)) ≤ v m := by
  have h1 := h.top
  rw [hV] at h1
  simp only [dv] at h1
  have b1 := (dv_bd (B := 18446744073709551616) (f := fun i => U (j + 1 + i)) (n := m) (by omega) (fun i hi => h.bd (j + 1 + i) (by omega))).1
  have b2 := (dv_bd (B := 18446744073709551616) (f := v) (n := m) (by omega) (fun i hi => hv i (by omega))).2
  have hp := pow_pos' (show (0 : Int) < 18446744073709551616 by omega) m
  rw [show j + (m + 1) = j + 1 + m by omega]
  refine Int.not_lt.1 fun hgt => ?_
  have := Int.mul_le_mul_of_nonneg_right (show v m + 1 ≤ U (j + 1 + m) by omega) (show 0 ≤ (18446744073709551616 : Int) ^ m by omega)
  rw [Int.add_mul, Int.one_mul] at this
  omega
theorem Ldiv.step {j : Nat} (h : Ldiv X V U q N n (j + 1)) (hj : j < N) (hV : 0 < V) (hVn : V ≤ 18446744073709551616 ^ n) {F : Nat → Int} (hF : ∀ i, i < n + 1 → 0 ≤ F i ∧ F i < 18446744073709551616)
    (hFv : dv 18446744073709551616 F (n + 1) = dv 18446744073709551616 (fun i => U (j + i)) (n + 1) % V) {d : Int} (hd : d = dv 18446744073709551616 (fun i => U (j + i)) (n + 1) / V) {U' q' : Nat → Int}
    (hU : ∀ t, t < N + n → U' t = if j ≤ t ∧ t < j + (n + 1) then F (t - j) else U t) (hq : ∀ t, j + 1 ≤ t → t < N → q' t = q t) (hqj : q' j = d) : Ldiv X V U' q' N n j := by
  obtain ⟨w0, w1, -⟩ := h.win hj
  generalize hR : dv 18446744073709551616 (fun i => U (j + i)) (n + 1) = R at *
  have m1 := Int.emod_lt_of_pos R hV
  have m0 := Int.emod_nonneg R (show V ≠ 0 by omega)
  have hFn : F n = 0 ∧ dv 18446744073709551616 F n = R % V := by
    have hb := (dv_bd (B := 18446744073709551616) (f := F) (n := n) (by omega) (fun i hi => hF i (by omega)))
    have hp := pow_pos' (show (0 : Int) < 18446744073709551616 by omega) n
    simp only [dv] at hFv
    have h0 : F n = 0 := by
      have h1 := (hF n (by omega)).1
      refine Classical.byContradiction fun hne => ?_
      have := Int.mul_le_mul_of_nonneg_right (show 1 ≤ F n by omega) (show 0 ≤ (18446744073709551616 : Int) ^ n by omega)
      omega
    refine ⟨h0, ?_⟩
    rw [h0, Int.zero_mul, Int.add_zero] at hFv
    exact hFv
  have hUb : ∀ t, t < N + n → 0 ≤ U' t ∧ U' t < 18446744073709551616 := fun t ht => by
    rw [hU t ht]
    split
    · exact hF _ (by omega)
    · exact h.bd t ht
  have hlow : dv 18446744073709551616 U' j = dv 18446744073709551616 U j := dv_congr fun i hi => by rw [hU i (by omega), if_neg (by omega)]
  have hmid : dv 18446744073709551616 (fun i => U' (j + i)) n = R % V := by
    rw [← hFn.2]
    exact dv_congr fun i hi => by
      show U' (j + i) = F i
      rw [hU _ (by omega), if_pos (by omega), show j + i - j = i by omega]
  have hz' : ∀ t, j + n ≤ t → t < N + n → U' t = 0 := fun t h1 h2 => by
    rw [hU t h2]
    by_cases e : t = j + n
    · rw [if_pos (by omega), e, show j + n - j = n by omega]; exact hFn.1
    · rw [if_neg (by omega)]; exact h.zero t (by omega) h2
  have hd0 : 0 ≤ d := by rw [hd]; exact Int.ediv_nonneg w0 (by omega)
  have hd1 : d < 18446744073709551616 := by rw [hd]; exact Int.ediv_lt_of_lt_mul hV (by rw [Int.mul_comm]; exact w1)
  refine ⟨by rw [hmid]; exact m1, hz', ?_, hUb, fun t h1 h2 => ?_⟩
  · rw [h.sum]
    have e1 : dv 18446744073709551616 U' (N + n) = dv 18446744073709551616 U j + 18446744073709551616 ^ j * (R % V) := by
      rw [dv_more (show j + n ≤ N + n by omega) (fun i h1 h2 => hz' i h1 h2), dv_split, hlow, hmid]
    have e2 : dv 18446744073709551616 U (N + n) = dv 18446744073709551616 U j + 18446744073709551616 ^ j * R := by
      rw [dv_more (show j + (n + 1) ≤ N + n by omega) (fun i h1 h2 => h.zero i (by omega) h2), dv_split, hR]
    have e3 : dv 18446744073709551616 (fun i => q' (j + i)) (N - j) = d + 18446744073709551616 * dv 18446744073709551616 (fun i => q (j + 1 + i)) (N - (j + 1)) := by
      obtain ⟨r, hr⟩ : ∃ r, N - j = 1 + r := ⟨N - j - 1, by omega⟩
      rw [hr, dv_split, show N - (j + 1) = r by omega]
      simp only [dv, Nat.add_zero, Int.pow_zero, Int.mul_one, Int.zero_add, Int.pow_succ, Int.one_mul]
      rw [hqj]
      congr 2
      exact dv_congr fun i hi => by rw [← Nat.add_assoc]; exact hq _ (by omega) (by omega)
    rw [e1, e2, e3, Int.pow_succ]
    have e4 : R = V * d + R % V := by rw [hd]; have := Int.emod_add_mul_ediv R V; omega
    generalize R % V = r at *
    rw [e4]
    grind
  · by_cases e : t = j
    · rw [e, hqj]; exact ⟨hd0, hd1⟩
    · rw [hq t (by omega) h2]; exact h.qb t (by omega) h2
theorem Ldiv.done (h : Ldiv X V U q N n 0) (hV : 0 < V) : dv 18446744073709551616 q N = X / V ∧ dv 18446744073709551616 U n = X % V := by
  have h1 := h.top
  have h2 := h.sum
  simp only [Nat.zero_add, Int.pow_zero, Int.one_mul, Nat.sub_zero] at h1 h2
  rw [dv_more (show n ≤ N + n by omega) (fun i h3 h4 => h.zero i (by omega) h4)] at h2
  have h0 := (dv_bd (B := 18446744073709551616) (f := U) (n := n) (by omega) (fun i hi => h.bd i (by omega))).1
  generalize dv 18446744073709551616 q N = Q at *
  generalize dv 18446744073709551616 U n = r at *
  have e1 : (r + V * Q) / V = Q := by rw [Int.add_mul_ediv_left _ _ (by omega), Int.ediv_eq_zero_of_lt h0 h1]; omega
  have e2 : (r + V * Q) % V = r := by rw [Int.add_mul_emod_self_left, Int.emod_eq_of_lt h0 h1]
  rw [h2]
  exact ⟨e1.symm, e2.symm⟩
theorem Ldiv.start (hU : ∀ t, t < N + n → 0 ≤ U t ∧ U t < 18446744073709551616) (hX : dv 18446744073709551616 U (N + n) = X) (hlt : X < 18446744073709551616 ^ N * V) : Ldiv X V U q N n N := by
  refine ⟨?_, fun t h1 h2 => by omega, by rw [Nat.sub_self]; show X = _ + V * (_ * 0); rw [hX]; simp, hU, fun t h1 h2 => by omega⟩
  rw [dv_split] at hX
  have h0 := (dv_bd (B := 18446744073709551616) (f := U) (n := N) (by omega) (fun i hi => hU i (by omega))).1
  have hp := pow_pos' (show (0 : Int) < 18446744073709551616 by omega) N
  exact Int.lt_of_mul_lt_mul_left (a := 18446744073709551616 ^ N) (by omega) (by omega)
end
end Go.Proofs.Ytejliecmdkmgiaa
namespace Go.Proofs.Ytejliecmdkmgiaa
open Go.RowKit
theorem FrR.drewN {w : World} {base zb n : Nat} {F : Nat → Int} (h : FrR w base zb n F) (k : Nat) : FrR (w.drewN k) base zb n F := ⟨h.own, h.blk, h.row, h.bd⟩
theorem FrR.set {w : World} {base zb n : Nat} {F : Nat → Int} (h : FrR w base zb n F) {i : Nat} (hi : i < n) {x : Int} (hx : 0 ≤ x ∧ x < 18446744073709551616) : FrR (w.setCell ⟨zb, i, none⟩ (.int .u64 x)) base zb n (fun t => if t = i then x else F t) :=
  ⟨h.own, h.blk.set _ _, h.row.set0 hi x, fun t ht => by
    show 0 ≤ (if t = i then x else F t) ∧ (if t = i then x else F t) < _
    split
    · exact hx
    · exact h.bd t ht⟩
theorem FrR.congr {w : World} {base zb n : Nat} {F G : Nat → Int} (h : FrR w base zb n F) (e : ∀ i, i < n → F i = G i) : FrR w base zb n G :=
  ⟨h.own, h.blk, h.row.congr e, fun i hi => by rw [← e i hi]; exact h.bd i hi⟩
theorem word_step {N f q r y : Int} (hy : 0 < y) (hN : N / y = q) (hr : N % y = r) : (f + 18446744073709551616 * N) / y = (r * 18446744073709551616 + f) / y + 18446744073709551616 * q ∧ (f + 18446744073709551616 * N) % y = (r * 18446744073709551616 + f) % y := by
  have e := Int.emod_add_mul_ediv N y
  rw [hN, hr] at e
  have h : f + 18446744073709551616 * N = (r * 18446744073709551616 + f) + y * (18446744073709551616 * q) := by rw [← e]; grind
  rw [h]
  exact ⟨Int.add_mul_ediv_left _ _ (by omega), Int.add_mul_emod_self_left _ _ _⟩
theorem Word_any (ax : Option Addr) (n cx : Nat) (f : Nat → Int) (y : Int) (w : World) (hy : 0 < y ∧ y < 18446744073709551616) (hx : RdW w (.slice ax n cx) n f) :
    Calls Try.prog 189 #[.slice ax n cx, .int .u64 y] w fun e w' => ∃ v, e = .returned (.tuple #[v, .int .u64 (natFrom f 0 n % y), .int .i64 0]) ∧ FrN w' w.heap.size v (natFrom f 0 n / y) ∧ Below w.heap.size w w' := by
  obtain ⟨y0, y1⟩ := hy
  have hb : n ≤ 17592186044416 := by obtain ⟨a, cap, -, -, h, -⟩ := hx.1; exact h
  have hl := natLeast_any _ n f w hx.1
  have hfb := words_bd hx.2
  have hp := sz_le f n
  have hv := dv_cut (n := n) f
  rw [← natFrom_dv0 f n] at hv
  have hyb : (y == 0) = false := beq_eq_false_iff_ne.2 (by omega)
  generalize natFrom f 0 n = X at *
  generalize sz f n = p at *
  have hfp : ∀ i, i < p → 0 ≤ f i ∧ f i < 18446744073709551616 := fun i hi => hfb i (by omega)
  have HL := Lib.hid hl
  have HV := Lib.hid hv
  have HF := Lib.hid hfp
  clear hl hfb hv hfp hx
  go_enter Try.func189, Try.ntmps189
  go_wp2_with fail
  (refine HL.out.mono ?_)
  rintro e w1 ⟨b, rfl, k1, k2, k3, k4⟩
  have hfr : FrR w1 w.heap.size b p f := ⟨k1, k2, k3, HF.out⟩
  have HFR := Lib.hid hfr
  have HB := Lib.hid k4
  clear hfr k1 k2 k3 k4 HL
  go_wp2_with fail
  go_loopw [8, 9] (fun rv iv wr => ∃ (k : Nat) (F : Nat → Int) (r : Int), k ≤ p ∧ iv = .int .i64 ((k : Int) - 1) ∧ rv = .int .u64 r ∧ 0 ≤ r ∧ r < y ∧ FrR wr w.heap.size b p F ∧ Hid (∀ i, i < k → F i = f i) ∧
    Hid (dv 18446744073709551616 (fun i => F (k + i)) (p - k) = dv 18446744073709551616 (fun i => f (k + i)) (p - k) / y ∧ r = dv 18446744073709551616 (fun i => f (k + i)) (p - k) % y) ∧ w1.grownBy wr (some b)) (fun _ iv _ => (intOf iv + 1).toNat)
  case atStart =>
    refine ⟨p, f, 0, Nat.le_refl _, rfl, rfl, Int.le_refl 0, y0, HFR.out, fun _ _ => rfl, ?_, gb_refl _ _⟩
    show _ ∧ _
    rw [Nat.sub_self]
    show (0 : Int) = 0 / y ∧ (0 : Int) = 0 % y
    rw [Int.zero_ediv, Int.zero_emod]
    exact ⟨rfl, rfl⟩
  case round =>
    clear HFR
    obtain ⟨k, F, r, k1, rfl, rfl, r0, r1, hfr, hlo, hhi, hgr⟩ := hrel
    rcases Nat.eq_zero_or_pos k with e | hk
    · subst e
      have hh := hhi.out
      simp only [Nat.zero_add, Nat.sub_zero] at hh
      rw [HV.out] at hh
      have hl2 := natLeast_fr _ p F wr (hfr.rd (by omega))
      rw [natFrom_dv0, hh.1] at hl2
      have HR := Lib.hid hh.2
      have HL2 := Lib.hid hl2
      have HB2 := Lib.hid (HB.out.grown hgr HB.out.size (fun k hk => by have := hfr.own; injection hk with hk; omega))
      clear hh hl2 hfr hgr hhi hlo
      go_wp2_with fail
      (refine HL2.out.mono ?_)
      rintro e w3 ⟨v, rfl, hf, hb3⟩
      obtain ⟨a, n', c, F', rfl, hf1, hf2⟩ := hf.nat
      have HF3 := Lib.hid (show FrN w3 w.heap.size _ (X / y) from ⟨n', F', hf1.mono HB2.out.size, hf2⟩)
      have HB3 := Lib.hid (HB2.out.trans (hb3.mono HB2.out.size))
      clear hf hb3 hf1 hf2 HL2
      go_wp2_with fail
      go_ret3
      exact ⟨_, by rw [HR.out]; rfl, HF3.out, HB3.out⟩
    · obtain ⟨j, rfl⟩ : ∃ j, k = j + 1 := ⟨k - 1, by omega⟩
      have hj0 : (0 : Int) ≤ ((j + 1 : Nat) : Int) - 1 := by omega
      have hjn : ((j + 1 : Nat) : Int) - 1 = (j : Int) := by omega
      rw [hjn] at hj0 ⊢
      clear hjn
      obtain ⟨d1, d2⟩ := hfr.row.get0 (i := j) (by omega) (x := f j) (hlo.out j (by omega))
      obtain ⟨x0, x1⟩ := HF.out j (by omega)
      have hs := word_step (f := f j) y0 hhi.out.1.symm hhi.out.2.symm
      have hd := fun u => Div64_any r (f j) y u r0 r1 (by omega) x0 (by omega)
      have hm := Int.emod_lt_of_pos (r * 18446744073709551616 + f j) y0
      have hm0 := Int.emod_nonneg (r * 18446744073709551616 + f j) (show y ≠ 0 by omega)
      have hq0 : 0 ≤ (r * 18446744073709551616 + f j) / y := Int.ediv_nonneg (by omega) (by omega)
      have hq1 : (r * 18446744073709551616 + f j) / y < 18446744073709551616 := Int.ediv_lt_of_lt_mul y0 (by
        have := Int.mul_le_mul_of_nonneg_right (show r + 1 ≤ y by omega) (show (0 : Int) ≤ 18446744073709551616 by omega)
        rw [Int.mul_comm]; omega)
      generalize (r * 18446744073709551616 + f j) / y = q at *
      generalize (r * 18446744073709551616 + f j) % y = r' at *
      have HD := Lib.hid hd
      have HS := Lib.hid hs
      have HFR := Lib.hid hfr
      have HGR := Lib.hid hgr
      obtain ⟨x, hx⟩ : ∃ x, x = f j := ⟨_, rfl⟩
      rw [← hx] at d1 HD
      have HX := Lib.hid hx
      clear hd hs hfr hgr hx x0 x1
      go_wp2_with (go_at_call 194; (with_reducible refine (HD.out _).mono ?_); rintro e w' ⟨rfl, nd, rfl⟩)
      go_roundw
      case rel =>
        refine ⟨j, _, r', by omega, by go_num, rfl, hm0, hm, (HFR.out.drewN nd).set (i := j) (by omega) ⟨hq0, hq1⟩, fun i hi => ?_, ?_, gb_trans HGR.out (gb_trans (gb_drewN _ nd _) (gb_set _ _ _))⟩
        · show (if i = j then q else F i) = f i
          rw [if_neg (by omega)]; exact hlo.out i (by omega)
        · obtain ⟨t, ht⟩ : ∃ t, p - j = 1 + t := ⟨p - j - 1, by omega⟩
          have ht2 : p - (j + 1) = t := by omega
          have hh := HS.out
          rw [ht2] at hh
          have e1 : ∀ g : Nat → Int, dv 18446744073709551616 (fun i => g (j + i)) (p - j) = g j + 18446744073709551616 * dv 18446744073709551616 (fun i => g (j + 1 + i)) t := fun g => by
            rw [ht, dv_split]
            simp only [dv, Nat.add_zero, Int.pow_zero, Int.mul_one, Int.zero_add, Int.pow_succ, Int.one_mul]
            congr 2
            exact dv_congr fun i _ => by rw [Nat.add_assoc]
          show _ ∧ _
          rw [e1 f, hh.1, hh.2, e1 (fun t => if t = j then q else F t)]
          refine ⟨?_, rfl⟩
          rw [if_pos rfl]
          congr 2
          exact dv_congr fun i _ => by rw [if_neg (by omega)]
      case measure => simp [intOf]
theorem shr_or {x y : Int} {s : Nat} (hs : s < 64) (hx : 0 ≤ x ∧ x < 18446744073709551616) (hy : 0 ≤ y ∧ y < 18446744073709551616) :
    bits .or .u64 (x / 2 ^ s) (IntKind.u64.wrap (y * 2 ^ (64 - s))) = x / 2 ^ s + y % 2 ^ s * 2 ^ (64 - s) := by
  obtain ⟨a1, a2, a3, a4, a5⟩ := shr_word hs hx hy
  rw [IntKind.wrap_u64, a3]
  obtain ⟨A, eA⟩ := Int.eq_ofNat_of_zero_le a4
  obtain ⟨C, eC⟩ := Int.eq_ofNat_of_zero_le a1
  rw [eA, eC] at a5 ⊢
  rw [eC] at a2
  have hP : (2 : Int) ^ (64 - s) = ((2 ^ (64 - s) : Nat) : Int) := by simp
  rw [hP] at a2 a5 ⊢
  have h1 : A * 2 ^ (64 - s) + C < 18446744073709551616 := by
    have : ((A * 2 ^ (64 - s) + C : Nat) : Int) < 18446744073709551616 := by rw [Int.natCast_add, Int.natCast_mul]; omega
    omega
  have := num.or_apart A C (64 - s) (by omega) h1
  rw [u64_or_nat _ _ (by omega) (by omega)] at this
  rw [← Int.natCast_mul, u64_or_nat _ _ (by omega) (by omega), Nat.or_comm, this, Int.natCast_add]
  omega
theorem Shr_any (ax : Option Addr) (n cx s : Nat) (f : Nat → Int) (w : World) (hs : s < 64) (hx : RdW w (.slice ax n cx) n f) :
    Calls Try.prog 200 #[.slice ax n cx, .int .i64 s] w fun e w' => ∃ v, e = .returned (.tuple #[v, .int .i64 0]) ∧ FrN w' w.heap.size v (natFrom f 0 n / 2 ^ s) ∧ Below w.heap.size w w' := by
  have hb : n ≤ 17592186044416 := by obtain ⟨a, cap, -, -, h, -⟩ := hx.1; exact h
  have s1 := size_any _ n f w hx.1
  have hfb := words_bd hx.2
  have hp := sz_le f n
  have hv := dv_cut (n := n) f
  rw [← natFrom_dv0 f n] at hv
  obtain ⟨_, _, e1, -, -, h3⟩ := wd_get hx.1
  simp only [Value.slice.injEq, true_and] at e1
  obtain ⟨rfl, rfl⟩ := e1
  generalize natFrom f 0 n = X at *
  generalize sz f n = p at *
  have hfp : ∀ i, i < p → 0 ≤ f i ∧ f i < 18446744073709551616 := fun i hi => hfb i (by omega)
  have q1 : (s : Int) / 64 = 0 := by omega
  have q2 : (s : Int) % 64 = s := by omega
  have S1 := Lib.hid s1
  have HV := Lib.hid hv
  have HF := Lib.hid hfp
  have H3 := Lib.hid h3
  clear s1 hfb hv hfp hx h3
  rcases Nat.eq_zero_or_pos p with e | hpp
  · subst e
    have hz : Hid (X = 0) := HV.out.symm
    go_enter Try.func200, Try.ntmps200
    go_wp2_with (go_at_call 160; (with_reducible refine S1.out.mono ?_); rintro e w' ⟨rfl, rfl⟩)
    go_ret2
    refine ⟨_, rfl, ⟨0, fun _ => 0, Or.inl ⟨rfl, rfl⟩, ⟨fun i h => absurd h (by omega), fun h => absurd h (by omega), ?_⟩⟩, Below.refl _ _⟩
    rw [hz.out, Int.zero_ediv]; rfl
  · have mk := mk_words p (by omega)
    have hpi : (0 : Int) < p := by omega
    go_enter Try.func200, Try.ntmps200
    go_wp2_with (go_at_call 160; (with_reducible refine S1.out.mono ?_); rintro e w' ⟨rfl, rfl⟩)
    have hr0 := (CellsAt.row (f := fun _ => 0) (CellsAt.made w (.int .u64 0) p 62))
    have hk0 := Blk.made w (.int .u64 0) p 62
    have hg0 := World.grownBy_alloc w (.cells (madeCells #[.int .u64 0] p) 62) (some w.heap.size)
    have HR0 := Lib.hid hr0
    have HK0 := Lib.hid hk0
    have HG0 := Lib.hid hg0
    clear hr0 hk0 hg0 mk
    generalize w.alloc (.cells (madeCells #[.int .u64 0] p) 62) = w4 at HR0 HK0 HG0 ⊢
    generalize Value.bool (decide ((s : Int) < 0)) = bz
    generalize Value.int .i64 ((s : Int) % 64) = bz2
    generalize Value.bool (decide (p = 0)) = bz3
    go_loopw [29] (fun iv wr => ∃ i : Nat, i ≤ p ∧ iv = .int .i64 i ∧ RowAt .u64 wr w.heap.size 0 p (fun t => if t < i then shr f p s t else 0) ∧ Blk wr w.heap.size p 62 ∧ w.grownBy wr (some w.heap.size)) (fun iv _ => p - (intOf iv).toNat)
    case atStart => exact ⟨0, Nat.zero_le _, rfl, HR0.out.congr fun i _ => (if_neg (by omega)).symm, HK0.out, HG0.out⟩
    case round =>
      clear HR0 HG0 HK0
      obtain ⟨i, i1, rfl, hrow, hblk, hgr⟩ := hrel
      by_cases hi : i < p
      · obtain ⟨d1, d2⟩ := hrow.get0 (i := i) hi (x := 0) (if_neg (by omega))
        obtain ⟨b, o, rfl, hcb⟩ := H3.out i (by omega)
        have hcx := gcell hgr (Nat.le_refl _) hcb
        obtain ⟨x0, x1⟩ := HF.out i hi
        have HROW := Lib.hid hrow
        have HBLK := Lib.hid hblk
        have HGR := Lib.hid hgr
        by_cases hm : i + 1 < p
        · obtain ⟨b', o', e, hcy⟩ := H3.out (i + 1) (by omega)
          injection e with e
          injection e with e1 e2
          subst e1 e2
          have hcy := gcell hgr (Nat.le_refl _) hcy
          obtain ⟨z0, z1⟩ := HF.out (i + 1) hm
          have hsh : Hid (shr f p s i = f i / 2 ^ s + f (i + 1) % 2 ^ s * 2 ^ (64 - s)) := by show shr f p s i = _; unfold shr; rw [if_pos hm]
          have hor := shr_or hs ⟨x0, x1⟩ ⟨z0, z1⟩
          obtain ⟨x, hxe⟩ : ∃ x, x = f i := ⟨_, rfl⟩
          obtain ⟨z, hze⟩ : ∃ z, z = f (i + 1) := ⟨_, rfl⟩
          rw [← hxe] at hcx x0 x1 hsh hor
          rw [← hze] at hcy z0 z1 hsh hor
          have HOR := Lib.hid hor
          have hi1 : ((i : Int) + 1 < p) := by omega
          clear hxe hze hrow hblk hgr hor
          have hbl : b < w.heap.size := World.block_lt_of_cell? _ _ hcb
          have hbne : b ≠ w.heap.size := by omega
          go_wp2_with fail
          go_region
          all_goals
            go_wp2_with fail
            go_roundw
            case rel =>
              refine ⟨i + 1, by omega, by go_num, (RowAt.set0 (w := wr.setCell _ _) (HROW.out.set0 hi _) hi _).congr fun t _ => ?_, Blk.set (w := wr.setCell _ _) (HBLK.out.set _ _) _ _, gb_trans HGR.out (gb_trans (gb_set wr _ _) (gb_trans (gb_set _ _ _) (gb_drew _ _)))⟩
              by_cases e : t = i
              · rw [if_pos e, if_pos (by omega), e, hsh.out]; exact HOR.out
              · rw [if_neg e, if_neg e]
                by_cases e2 : t < i
                · rw [if_pos e2, if_pos (by omega)]
                · rw [if_neg e2, if_neg (by omega)]
            case measure => simp [intOf]; omega
        · have hsh : Hid (shr f p s i = f i / 2 ^ s) := by show shr f p s i = _; unfold shr; rw [if_neg hm, Int.add_zero]
          obtain ⟨x, hxe⟩ : ∃ x, x = f i := ⟨_, rfl⟩
          rw [← hxe] at hcx x0 x1 hsh
          have hi1 : ¬ ((i : Int) + 1 < p) := by omega
          clear hxe hrow hblk hgr
          go_wp2_with fail
          go_roundw
          case rel =>
            refine ⟨i + 1, by omega, by go_num, (HROW.out.set0 hi _).congr fun t _ => ?_, HBLK.out.set _ _, gb_trans HGR.out (gb_set wr _ _)⟩
            by_cases e : t = i
            · rw [if_pos e, if_pos (by omega), e, hsh.out]
            · rw [if_neg e]
              by_cases e2 : t < i
              · rw [if_pos e2, if_pos (by omega)]
              · rw [if_neg e2, if_neg (by omega)]
          case measure => simp [intOf]; omega
      · obtain rfl : i = p := by omega
        have hrow := hrow.congr (g := shr f i s) fun t ht => if_pos ht
        have hsz := size_any _ i _ _ (row_rd hrow (by omega))
        have hfr := fr_sized hblk hrow (Nat.le_refl _) (by omega) (fun t ht => shr_bd hs HF.out t ht) (show dv 18446744073709551616 (shr f i s) i = X / 2 ^ s by rw [shr_val hs HF.out, HV.out])
        have hb := (Below.refl _ w).grown hgr (Nat.le_refl _) (fun k hk => by injection hk with hk; omega)
        have hle2 := sz_le (shr f i s) i
        generalize sz (shr f i s) i = z at *
        have HSZ := Lib.hid hsz
        have HFR := Lib.hid hfr
        have HB5 := Lib.hid hb
        clear hsz hfr hb hrow hblk hgr
        go_wp2_with (go_at_call 160; (with_reducible refine HSZ.out.mono ?_); rintro e w' ⟨rfl, rfl⟩)
        go_ret2
        exact ⟨_, rfl, HFR.out, HB5.out⟩
end Go.Proofs.Ytejliecmdkmgiaa
namespace Go.Proofs.Ytejliecmdkmgiaa
open Go.RowKit
theorem guess_any (u2 u1 u0 v1 v0 : Int) (w : World) (h2 : 0 ≤ u2 ∧ u2 ≤ v1) (h1 : 0 ≤ u1 ∧ u1 < 18446744073709551616) (h0 : 0 ≤ u0 ∧ u0 < 18446744073709551616) (hv1 : 0 < v1 ∧ v1 < 18446744073709551616) (hv0 : 0 ≤ v0 ∧ v0 < 18446744073709551616) :
    Calls Try.prog 197 #[.int .u64 u2, .int .u64 u1, .int .u64 u0, .int .u64 v1, .int .u64 v0] w fun e w' => ∃ d, e = .returned (.int .u64 d) ∧ Guess ((u2 * 18446744073709551616 + u1) * 18446744073709551616 + u0) (v1 * 18446744073709551616 + v0) d ∧ ∃ n, w' = w.drewN n := by
  obtain ⟨k20, k21⟩ := h2
  obtain ⟨k10, k11⟩ := h1
  obtain ⟨k00, k01⟩ := h0
  obtain ⟨kv0, kv1⟩ := hv1
  obtain ⟨kw0, kw1⟩ := hv0
  obtain ⟨G, hG⟩ : ∃ G : Int → Prop, G = fun d => Guess ((u2 * 18446744073709551616 + u1) * 18446744073709551616 + u0) (v1 * 18446744073709551616 + v0) d := ⟨_, rfl⟩
  have hGd : ∀ d, Guess ((u2 * 18446744073709551616 + u1) * 18446744073709551616 + u0) (v1 * 18446744073709551616 + v0) d = G d := fun d => by rw [hG]
  simp only [hGd]
  have HGD := Lib.hid hGd
  clear hG hGd
  go_enter Try.func197, Try.ntmps197
  go_wp2_with fail
  go_step3
  go_upto_if 21 with fail
  go_cut [11, 12] (fun dv rv wx => (∃ d rest, dv = .int .u64 d ∧ rv = .int .u64 rest ∧ Srch u2 u1 u0 v1 v0 d rest ∧ rest < 18446744073709551616) ∧ ∃ n, wx = w.drewN n)
  case first =>
    by_cases hc : u2 = v1
    · have htop := Srch.top (u0 := u0) (v0 := v0) k10 hc (by omega)
      have hge : v1 ≤ u2 := by omega
      obtain ⟨s, e1⟩ : ∃ s, s = (u1 + v1) % 18446744073709551616 := ⟨_, rfl⟩
      obtain ⟨o, e2⟩ : ∃ o, o = (u1 + v1) / 18446744073709551616 := ⟨_, rfl⟩
      have ha := add64_z u1 v1 s o k10 (by omega) e1 e2
      by_cases ho : o = 0
      · have hob : (o != 0) = false := by simp [ho]
        have hs : s = u1 + v1 := by omega
        have HT := Lib.hid htop
        have HS := Lib.hid hs
        have hsl : s < 18446744073709551616 := by omega
        clear e1 e2 ho hs htop
        go_wp2_with (simp only [ha])
        go_meet
        exact ⟨⟨_, _, rfl, rfl, by rw [HS.out]; exact HT.out, hsl⟩, 0, rfl⟩
      · have hob : (o != 0) = true := by rw [bne_iff_ne]; exact ho
        have HG := Lib.hid (htop.over k00 ⟨kw0, kw1⟩ (by omega))
        clear e1 e2 ho htop
        go_wp2_with (simp only [ha])
        (try rw [Exit.noGoto_ret]); go_ret
        exact ⟨_, rfl, by rw [← HGD.out]; exact HG.out, 0, rfl⟩
    · have hlt : u2 < v1 := by omega
      have hst := Srch.start (u2 := u2) (u1 := u1) (u0 := u0) (v1 := v1) (v0 := v0) k20 ⟨k10, k11⟩ ⟨k00, k01⟩ hlt kw0
      have hd := Div64_any u2 u1 v1 w k20 hlt (by omega) k10 (by omega)
      have hm := Int.emod_lt_of_pos (u2 * 18446744073709551616 + u1) kv0
      generalize (u2 * 18446744073709551616 + u1) / v1 = q at *
      generalize (u2 * 18446744073709551616 + u1) % v1 = r at *
      have HD := Lib.hid hd
      have HS := Lib.hid hst
      clear hd hst hc
      go_wp2_with (go_at_call 194; (with_reducible refine HD.out.mono ?_); rintro e w' ⟨rfl, nd, rfl⟩)
      go_meet
      exact ⟨⟨_, _, rfl, rfl, HS.out, by omega⟩, nd, rfl⟩
  case rest =>
    obtain ⟨⟨d, rest, rfl, rfl, hs, hr⟩, n0, rfl⟩ := hcut
    have HS := Lib.hid hs
    clear hs
    obtain ⟨w0, hw0⟩ : ∃ w0, w0 = w.drewN n0 := ⟨_, rfl⟩
    rw [← hw0]
    have HW := Lib.hid hw0
    clear hw0
    go_wp2_with fail
    go_step3
    go_wp2_with fail
    go_loop [11, 12] (fun dv rv => ∃ d rest, dv = .int .u64 d ∧ rv = .int .u64 rest ∧ Srch u2 u1 u0 v1 v0 d rest ∧ rest < 18446744073709551616) (fun _ rv => (18446744073709551616 - intOf rv).toNat)
    case atStart => exact ⟨d, rest, rfl, rfl, HS.out, hr⟩
    case round =>
      clear HS hr
      obtain ⟨d, rest, rfl, rfl, hs, hr⟩ := hrel
      have hd0 := hs.d0
      have hd1 := hs.d1
      have hr0 := hs.r0
      obtain ⟨hi, e1⟩ : ∃ hi, hi = d * v0 / 18446744073709551616 := ⟨_, rfl⟩
      obtain ⟨lo, e2⟩ : ∃ lo, lo = d * v0 % 18446744073709551616 := ⟨_, rfl⟩
      have hmul := Mul64_any d v0 ⟨hd0, by omega⟩ ⟨kw0, kw1⟩ w0
      rw [← e1, ← e2] at hmul
      have hme := hs.meets
      have hdn := hs.down ⟨k00, k01⟩ (by omega) ⟨kw0, kw1⟩
      generalize d * v0 = p at *
      have HMUL := Lib.hid hmul
      by_cases ha : hi < rest
      · have HG := Lib.hid (hme (by omega))
        clear hmul hme hdn hs e1 e2
        go_wp2_with (go_at_call 125; (with_reducible refine HMUL.out.mono ?_); rintro e w' ⟨rfl, rfl⟩)
        (try rw [Exit.noGoto_ret]); go_ret
        exact ⟨_, rfl, by rw [← HGD.out]; exact HG.out, n0, HW.out⟩
      · by_cases hb : hi = rest ∧ lo ≤ u0
        · obtain ⟨hb1, hb2⟩ := hb
          have HG := Lib.hid (hme (by omega))
          have hbe : (hi == rest) = true := beq_iff_eq.2 hb1
          clear hmul hme hdn hs e1 e2 hb1
          go_wp2_with (go_at_call 125; (with_reducible refine HMUL.out.mono ?_); rintro e w' ⟨rfl, rfl⟩)
          (try rw [Exit.noGoto_ret]); go_ret
          exact ⟨_, rfl, by rw [← HGD.out]; exact HG.out, n0, HW.out⟩
        · obtain ⟨hd2, hsn⟩ := hdn (by omega)
          have hor : (hi == rest) = false ∨ (hi == rest) = true ∧ u0 < lo := by
            by_cases e : hi = rest
            · exact Or.inr ⟨beq_iff_eq.2 e, by omega⟩
            · exact Or.inl (beq_eq_false_iff_ne.2 e)
          obtain ⟨s, e3⟩ : ∃ s, s = (rest + v1) % 18446744073709551616 := ⟨_, rfl⟩
          obtain ⟨o, e4⟩ : ∃ o, o = (rest + v1) / 18446744073709551616 := ⟨_, rfl⟩
          have hadd := add64_z rest v1 s o hr0 (by omega) e3 e4
          have hge : rest ≤ hi := by omega
          by_cases ho : o = 0
          · have hob : (o != 0) = false := by simp [ho]
            have hs2 : s = rest + v1 := by omega
            rw [← hs2] at hsn
            have HS := Lib.hid hsn
            have hsl : s < 18446744073709551616 := by omega
            have hsm : Hid (rest < s) := by show _ < _; omega
            clear hmul hme hdn hs e1 e2 e3 e4 ho hs2 hsn ha hb
            rcases hor with hbe | ⟨hbe, hlo⟩
            · go_wp2_with (first
                | (go_at_call 125; (with_reducible refine HMUL.out.mono ?_); rintro e w' ⟨rfl, rfl⟩)
                | simp only [hadd])
              go_round
              case rel => exact ⟨_, _, rfl, rfl, HS.out, hsl⟩
              case measure => simp [intOf]; have := hsm.out; omega
            · go_wp2_with (first
                | (go_at_call 125; (with_reducible refine HMUL.out.mono ?_); rintro e w' ⟨rfl, rfl⟩)
                | simp only [hadd])
              go_round
              case rel => exact ⟨_, _, rfl, rfl, HS.out, hsl⟩
              case measure => simp [intOf]; have := hsm.out; omega
          · have hob : (o != 0) = true := by rw [bne_iff_ne]; exact ho
            have HG := Lib.hid (hsn.over k00 ⟨kw0, kw1⟩ (by omega))
            clear hmul hme hdn hs e1 e2 e3 e4 ho hsn ha hb
            rcases hor with hbe | ⟨hbe, hlo⟩
            · go_wp2_with (first
                | (go_at_call 125; (with_reducible refine HMUL.out.mono ?_); rintro e w' ⟨rfl, rfl⟩)
                | simp only [hadd])
              (try rw [Exit.noGoto_ret]); go_ret
              exact ⟨_, rfl, by rw [← HGD.out]; exact HG.out, n0, HW.out⟩
            · go_wp2_with (first
                | (go_at_call 125; (with_reducible refine HMUL.out.mono ?_); rintro e w' ⟨rfl, rfl⟩)
                | simp only [hadd])
              (try rw [Exit.noGoto_ret]); go_ret
              exact ⟨_, rfl, by rw [← HGD.out]; exact HG.out, n0, HW.out⟩
end Go.Proofs.Ytejliecmdkmgiaa
namespace Go.Proofs.Ytejliecmdkmgiaa
open Go.RowKit
theorem wc_congr {X X' Y : Nat → Int} : ∀ i, (∀ k, k < i → X k = X' k) → wc X Y i = wc X' Y i
  | 0, _ => rfl
  | i + 1, h => by simp only [wc]; rw [wc_congr i (fun k hk => h k (by omega)), h i (by omega)]
theorem wd_congr {X X' Y : Nat → Int} {i : Nat} (h : ∀ k, k ≤ i → X k = X' k) : wd X Y i = wd X' Y i := by
  unfold wd; rw [wc_congr i (fun k hk => h k (by omega)), h i (Nat.le_refl _)]
theorem midW (b cap lo hi : Nat) (h1 : lo ≤ hi) (h2 : hi ≤ cap) (h3 : lo < cap) :
    (∀ u : World, (Instr.slice 47 (.slice (some ⟨b, 0, none⟩) cap cap) (some (.int .i64 (lo : Int))) (some (.int .i64 (hi : Int))) none).run Try.prog u = .ok (.slice (some ⟨b, lo, none⟩) (hi - lo) (cap - lo)) u) ∧
      (∀ u : World, (Instr.sliceAt 47 (.slice (some ⟨b, 0, none⟩) cap cap) (some (.int .i64 (lo : Int))) (some (.int .i64 (hi : Int))) none).run Try.prog u = .ok (.slice (some ⟨b, lo, none⟩) (hi - lo) (cap - lo)) u) := by
  have key : ∀ u : World, (Instr.slice 47 (.slice (some ⟨b, 0, none⟩) cap cap) (some (.int .i64 (lo : Int))) (some (.int .i64 (hi : Int))) none).run Try.prog u = .ok (.slice (some ⟨b, lo, none⟩) (hi - lo) (cap - lo)) u := fun u => by
    rw [run_slice_lh u 47 _ cap cap undW .i64 .i64 (lo : Int) (hi : Int) (by omega) (by omega) (by omega), sizeW]
    simp only [Result.andThen, sliced, Int.toNat_natCast]
    rw [if_neg (by omega)]
    simp [Addr.add]
    omega
  exact ⟨key, fun u => by rw [run_sliceAt_slice u 47 _ _ _ _ undW, key u]⟩
theorem prefW (b cap hi : Nat) (h2 : hi ≤ cap) :
    (∀ u : World, (Instr.slice 47 (.slice (some ⟨b, 0, none⟩) cap cap) none (some (.int .i64 (hi : Int))) none).run Try.prog u = .ok (.slice (some ⟨b, 0, none⟩) hi cap) u) ∧
      (∀ u : World, (Instr.sliceAt 47 (.slice (some ⟨b, 0, none⟩) cap cap) none (some (.int .i64 (hi : Int))) none).run Try.prog u = .ok (.slice (some ⟨b, 0, none⟩) hi cap) u) := by
  have key : ∀ u : World, (Instr.slice 47 (.slice (some ⟨b, 0, none⟩) cap cap) none (some (.int .i64 (hi : Int))) none).run Try.prog u = .ok (.slice (some ⟨b, 0, none⟩) hi cap) u := fun u => by
    rw [run_slice_h u 47 _ cap cap undW .i64 (hi : Int) (by omega) (by omega), sizeW]
    simp only [Result.andThen, sliced, Int.toNat_natCast, Nat.sub_zero]
    congr 2
    simp [Addr.add]
  exact ⟨key, fun u => by rw [run_sliceAt_slice u 47 _ _ _ _ undW, key u]⟩
theorem norm_ok {f g : Nat → Int} {nx n s : Nat} (hf : ∀ i, i < nx → 0 ≤ f i ∧ f i < 18446744073709551616) (hg : ∀ i, i < n + 1 → 0 ≤ g i ∧ g i < 18446744073709551616) (hs : s < 64)
    (h1 : 9223372036854775808 ≤ g n * 2 ^ s) (h2 : g n * 2 ^ s < 18446744073709551616) (hn : n + 1 ≤ nx) :
    dv 18446744073709551616 (shd (zw g (n + 1)) s) (n + 1) = dv 18446744073709551616 g (n + 1) * 2 ^ s ∧ dv 18446744073709551616 (shd (zw f nx) s) (nx + 1) = dv 18446744073709551616 f nx * 2 ^ s ∧ 0 < shd (zw g (n + 1)) s n ∧
      0 < dv 18446744073709551616 g (n + 1) ∧ dv 18446744073709551616 f nx * 2 ^ s < 18446744073709551616 ^ (nx - n) * (dv 18446744073709551616 g (n + 1) * 2 ^ s) ∧ dv 18446744073709551616 g (n + 1) * 2 ^ s ≤ 18446744073709551616 ^ (n + 1) := by
  have p1 := pow_pos' (show (0 : Int) < 2 by omega) s
  have hp2 := pow2_split hs
  have p2 := pow_pos' (show (0 : Int) < 2 by omega) (64 - s)
  have pn := pow_pos' (show (0 : Int) < 18446744073709551616 by omega) n
  have bg := dv_bd (B := 18446744073709551616) (f := g) (n := n) (by omega) (fun i hi => hg i (by omega))
  have bf := dv_bd (B := 18446744073709551616) (f := f) (n := nx) (by omega) hf
  have eY : dv 18446744073709551616 g (n + 1) = dv 18446744073709551616 g n + g n * 18446744073709551616 ^ n := rfl
  -- the divisor fills its words
  have hg1 : (g n + 1) * 2 ^ s ≤ 18446744073709551616 := by
    rw [← hp2, Int.mul_comm ((2 : Int) ^ s)]
    refine mul_le_r ?_ (by omega)
    rw [← hp2, Int.mul_comm ((2 : Int) ^ s)] at h2
    have := Int.lt_of_mul_lt_mul_right h2 (show (0 : Int) ≤ 2 ^ s by omega)
    omega
  have hYlt : dv 18446744073709551616 g (n + 1) < (g n + 1) * 18446744073709551616 ^ n := by rw [eY, Int.add_mul]; omega
  have hVlt : dv 18446744073709551616 g (n + 1) * 2 ^ s < 18446744073709551616 ^ (n + 1) := by
    have a1 : dv 18446744073709551616 g (n + 1) * 2 ^ s < (g n + 1) * 18446744073709551616 ^ n * 2 ^ s := Int.mul_lt_mul_of_pos_right hYlt p1
    have a2 : (g n + 1) * 18446744073709551616 ^ n * 2 ^ s = ((g n + 1) * 2 ^ s) * 18446744073709551616 ^ n := by grind
    have a3 : ((g n + 1) * 2 ^ s) * 18446744073709551616 ^ n ≤ 18446744073709551616 * 18446744073709551616 ^ n := mul_le_r hg1 (by omega)
    rw [Int.pow_succ, Int.mul_comm ((18446744073709551616 : Int) ^ n)]
    omega
  have hgn : 1 ≤ g n := by
    refine Int.not_lt.1 fun hlt => ?_
    have : g n = 0 := by have := (hg n (by omega)).1; omega
    rw [this, Int.zero_mul] at h1; omega
  have hYge : 18446744073709551616 ^ n ≤ dv 18446744073709551616 g (n + 1) := by
    have := mul_le_r (show 1 ≤ g n from hgn) (show (0 : Int) ≤ 18446744073709551616 ^ n by omega)
    rw [eY]; omega
  have k1 := shc_dv (zw g (n + 1)) s (n + 1)
  have k2 := shc_dv (zw f nx) s (nx + 1)
  have z1 := shc_bd (l := zw g (n + 1)) hs (n + 1) (fun k _ => zw_bd (by omega) hg k)
  have z2 := shc_bd (l := zw f nx) hs (nx + 1) (fun k _ => zw_bd (by omega) hf k)
  have d1 := (dv_bd (B := 18446744073709551616) (f := shd (zw g (n + 1)) s) (n := n + 1) (by omega) (fun i _ => shd_bd _ _ _))
  have d2 := (dv_bd (B := 18446744073709551616) (f := shd (zw f nx) s) (n := nx + 1) (by omega) (fun i _ => shd_bd _ _ _))
  rw [zw_dv (Nat.le_refl _)] at k1
  rw [zw_dv (Nat.le_succ _)] at k2
  have c1 : shc (zw g (n + 1)) s (n + 1) = 0 := by
    refine Classical.byContradiction fun hne => ?_
    have := mul_le_r (show 1 ≤ shc (zw g (n + 1)) s (n + 1) by omega) (show (0 : Int) ≤ 18446744073709551616 ^ (n + 1) by have := pow_pos' (show (0 : Int) < 18446744073709551616 by omega) (n + 1); omega)
    omega
  have hXlt : dv 18446744073709551616 f nx * 2 ^ s < 18446744073709551616 ^ (nx + 1) := by
    have a1 : dv 18446744073709551616 f nx * 2 ^ s < 18446744073709551616 ^ nx * 2 ^ s := Int.mul_lt_mul_of_pos_right bf.2 p1
    have a2 : (18446744073709551616 : Int) ^ nx * 2 ^ s ≤ 18446744073709551616 ^ nx * 18446744073709551616 := by
      refine mul_le_l ?_ (by have := pow_pos' (show (0 : Int) < 18446744073709551616 by omega) nx; omega)
      have h3 := pow_le' (B := 2) (by omega) (show s ≤ 64 by omega)
      have h4 : (2 : Int) ^ 64 = 18446744073709551616 := by decide
      omega
    rw [Int.pow_succ]; omega
  have c2 : shc (zw f nx) s (nx + 1) = 0 := by
    refine Classical.byContradiction fun hne => ?_
    have := mul_le_r (show 1 ≤ shc (zw f nx) s (nx + 1) by omega) (show (0 : Int) ≤ 18446744073709551616 ^ (nx + 1) by have := pow_pos' (show (0 : Int) < 18446744073709551616 by omega) (nx + 1); omega)
    omega
  rw [c1, Int.zero_mul, Int.add_zero] at k1
  rw [c2, Int.zero_mul, Int.add_zero] at k2
  refine ⟨k1, k2, ?_, by omega, ?_, by omega⟩
  · refine Classical.byContradiction fun hne => ?_
    have h0 : shd (zw g (n + 1)) s n = 0 := by have := (shd_bd (zw g (n + 1)) s n).1; omega
    have e : dv 18446744073709551616 (shd (zw g (n + 1)) s) (n + 1) = dv 18446744073709551616 (shd (zw g (n + 1)) s) n + shd (zw g (n + 1)) s n * 18446744073709551616 ^ n := rfl
    rw [h0, Int.zero_mul, Int.add_zero] at e
    have := (dv_bd (B := 18446744073709551616) (f := shd (zw g (n + 1)) s) (n := n) (by omega) (fun i _ => shd_bd _ _ _)).2
    have a1 : (18446744073709551616 : Int) ^ n * 1 ≤ dv 18446744073709551616 g (n + 1) * 2 ^ s := Int.mul_le_mul hYge (by omega) (by omega) (by omega)
    omega
  · rw [← Int.mul_assoc]
    refine Int.mul_lt_mul_of_pos_right ?_ p1
    have a1 : (18446744073709551616 : Int) ^ nx = 18446744073709551616 ^ (nx - n) * 18446744073709551616 ^ n := by rw [← Int.pow_add]; congr 1; omega
    have a2 := mul_le_l hYge (show (0 : Int) ≤ 18446744073709551616 ^ (nx - n) by have := pow_pos' (show (0 : Int) < 18446744073709551616 by omega) (nx - n); omega)
    rw [← a1] at a2
    omega
theorem long_step {X V d : Int} {U q v : Nat → Int} {N m j : Nat} (h : Ldiv X V U q N (m + 2) (j + 1)) (hj : j < N) (hv : ∀ i, i < m + 2 → 0 ≤ v i ∧ v i < 18446744073709551616) (hV : V = dv 18446744073709551616 v (m + 2)) (hv1 : 0 < v (m + 1))
    (hg : Guess ((U (j + (m + 2)) * 18446744073709551616 + U (j + (m + 1))) * 18446744073709551616 + U (j + m)) (v (m + 1) * 18446744073709551616 + v m) d) :
    0 ≤ d ∧ d < 18446744073709551616 ∧
    (wb (fun i => U (j + i)) (prw v d (m + 2)) (m + 2 + 1) = 0 → ∀ U' q', (∀ t, t < N + (m + 2) → U' t = ovr U (we (fun i => U (j + i)) (prw v d (m + 2))) j (m + 2 + 1) t) → (∀ t, j + 1 ≤ t → t < N → q' t = q t) → q' j = d → Ldiv X V U' q' N (m + 2) j) ∧
    (wb (fun i => U (j + i)) (prw v d (m + 2)) (m + 2 + 1) ≠ 0 → 1 ≤ d ∧ ∀ U' q', (∀ t, t < N + (m + 2) → U' t = ovr U (wd (we (fun i => U (j + i)) (prw v d (m + 2))) (zw v (m + 2))) j (m + 2 + 1) t) → (∀ t, j + 1 ≤ t → t < N → q' t = q t) → q' j = d - 1 → Ldiv X V U' q' N (m + 2) j) := by
  obtain ⟨w0, w1, -⟩ := h.win hj
  have hub : ∀ i, i < m + 2 + 1 → 0 ≤ U (j + i) ∧ U (j + i) < 18446744073709551616 := fun i hi => h.bd (j + i) (by omega)
  have pm := pow_pos' (show (0 : Int) < 18446744073709551616 by omega) m
  have hVb := dv_bd (B := 18446744073709551616) (by omega) hv
  have hVs : V = (v (m + 1) * 18446744073709551616 + v m) * 18446744073709551616 ^ m + dv 18446744073709551616 v m := by
    rw [hV]; simp only [dv, Int.pow_succ]; grind
  have bv := dv_bd (B := 18446744073709551616) (f := v) (n := m) (by omega) (fun i hi => hv i (by omega))
  have hVp : 0 < V := by
    have a1 := mul_le_r (show 1 ≤ v (m + 1) * 18446744073709551616 + v m by have := (hv m (by omega)).1; omega) (show (0 : Int) ≤ 18446744073709551616 ^ m by omega)
    omega
  have hUs : dv 18446744073709551616 (fun i => U (j + i)) (m + 2 + 1) = ((U (j + (m + 2)) * 18446744073709551616 + U (j + (m + 1))) * 18446744073709551616 + U (j + m)) * 18446744073709551616 ^ m + dv 18446744073709551616 (fun i => U (j + i)) m := by
    simp only [dv, Int.pow_succ]; grind
  have bu := dv_bd (B := 18446744073709551616) (f := fun i => U (j + i)) (n := m) (by omega) (fun i hi => hub i (by omega))
  have hok := hg.ok pm hUs bu hVs bv (by have := (hv m (by omega)).1; omega) w1
  have hd : 0 ≤ d ∧ d < 18446744073709551616 := ⟨hg.1, by have := hg.2.1; omega⟩
  have ht := take_ok (u := fun i => U (j + i)) (v := v) (n := m + 2) (d := d) hub hv hd (by rw [← hV]; exact hVp) (by rw [← hV]; exact hok.1) (by rw [← hV]; exact hok.2.1)
  rw [← hV] at ht
  refine ⟨hd.1, hd.2, fun hz U' q' hU hq hqj => ?_, fun hz => ⟨(ht.2 hz).1, fun U' q' hU hq hqj => ?_⟩⟩
  · exact h.step hj hVp (by rw [hV]; omega) (F := we (fun i => U (j + i)) (prw v d (m + 2))) (fun i _ => we_bd _ _ i) (ht.1 hz).2 (ht.1 hz).1 (fun t ht' => hU t ht') hq hqj
  · exact h.step hj hVp (by rw [hV]; omega) (F := wd (we (fun i => U (j + i)) (prw v d (m + 2))) (zw v (m + 2))) (fun i _ => wd_bd _ _ i) (ht.2 hz).2.2 (ht.2 hz).2.1 (fun t ht' => hU t ht') hq hqj
theorem long_step' {X V d : Int} {U q v : Nat → Int} {N n p1 m j : Nat} (hn : n = m + 2) (hp : p1 = m + 1) (h : Ldiv X V U q N n (j + 1)) (hj : j < N) (hv : ∀ i, i < n → 0 ≤ v i ∧ v i < 18446744073709551616) (hV : V = dv 18446744073709551616 v n) (hv1 : 0 < v p1)
    (hg : Guess ((U (j + n) * 18446744073709551616 + U (j + p1)) * 18446744073709551616 + U (j + m)) (v p1 * 18446744073709551616 + v m) d) :
    0 ≤ d ∧ d < 18446744073709551616 ∧
    (wb (fun i => U (j + i)) (prw v d n) (n + 1) = 0 → ∀ U' q', (∀ t, t < N + n → U' t = ovr U (we (fun i => U (j + i)) (prw v d n)) j (n + 1) t) → (∀ t, j + 1 ≤ t → t < N → q' t = q t) → q' j = d → Ldiv X V U' q' N n j) ∧
    (wb (fun i => U (j + i)) (prw v d n) (n + 1) ≠ 0 → 1 ≤ d ∧ ∀ U' q', (∀ t, t < N + n → U' t = ovr U (wd (we (fun i => U (j + i)) (prw v d n)) (zw v n)) j (n + 1) t) → (∀ t, j + 1 ≤ t → t < N → q' t = q t) → q' j = d - 1 → Ldiv X V U' q' N n j) := by
  subst hn hp
  exact long_step h hj hv hV hv1 hg
theorem ovr_ovr {U X Y : Nat → Int} {j n t : Nat} : ovr (ovr U X j n) (wd (fun i => ovr U X j n (j + i)) Y) j n t = ovr U (wd X Y) j n t := by
  unfold ovr
  by_cases e : j ≤ t ∧ t < j + n
  · rw [if_pos e, if_pos e]
    exact wd_congr fun k hk => by rw [if_pos (by omega), show j + k - j = k by omega]
  · rw [if_neg e, if_neg e, if_neg e]
end Go.Proofs.Ytejliecmdkmgiaa
namespace Go.Proofs.Ytejliecmdkmgiaa
open Go.RowKit
theorem FrR.mono {w : World} {base base' zb n : Nat} {F : Nat → Int} (h : FrR w base zb n F) (hb : base' ≤ base) : FrR w base' zb n F := ⟨Nat.le_trans hb h.own, h.blk, h.row, h.bd⟩
theorem mul_cancel_div {X Y P : Int} (hP : 0 < P) : (X * P) / (Y * P) = X / Y ∧ (X * P) % (Y * P) = (X % Y) * P := by
  refine ⟨Int.mul_ediv_mul_of_pos_left _ _ hP, ?_⟩
  rw [Int.mul_comm X, Int.mul_comm Y, Int.mul_emod_mul_of_pos _ _ hP, Int.mul_comm]
structure Dm (w u : World) (bv bu bq n T N : Nat) (v U q : Nat → Int) : Prop where
  fv : FrR u w.heap.size bv n v
  fu : FrR u w.heap.size bu T U
  fq : FrR u w.heap.size bq N q
  be : Below w.heap.size w u
theorem Dm.drewN {w u : World} {bv bu bq n T N : Nat} {v U q : Nat → Int} (h : Dm w u bv bu bq n T N v U q) (k : Nat) : Dm w (u.drewN k) bv bu bq n T N v U q :=
  ⟨h.fv.drewN k, h.fu.drewN k, h.fq.drewN k, ⟨h.be.os, h.be.tape, h.be.output, h.be.size, h.be.block⟩⟩
theorem Dm.drew {w u : World} {bv bu bq n T N : Nat} {v U q : Nat → Int} (h : Dm w u bv bu bq n T N v U q) : Dm w u.drew bv bu bq n T N v U q :=
  ⟨⟨h.fv.own, h.fv.blk, h.fv.row, h.fv.bd⟩, ⟨h.fu.own, h.fu.blk, h.fu.row, h.fu.bd⟩, ⟨h.fq.own, h.fq.blk, h.fq.row, h.fq.bd⟩, ⟨h.be.os, h.be.tape, h.be.output, h.be.size, h.be.block⟩⟩
theorem Dm.turn {w u u' : World} {bv bu bq n T N : Nat} {v U U' q : Nat → Int} (h : Dm w u bv bu bq n T N v U q) (h1 : bv < bu) (h2 : bu < bq) (hk : Blk u' bu T 62) (hr : RowAt .u64 u' bu 0 T U') (hb : ∀ t, t < T → 0 ≤ U' t ∧ U' t < 18446744073709551616) (hg : u.grownBy u' (some bu)) : Dm w u' bv bu bq n T N v U' q :=
  ⟨h.fv.grown hg (fun e => by have := Option.some.inj e; omega), ⟨h.fu.own, hk, hr, hb⟩, h.fq.grown hg (fun e => by have := Option.some.inj e; omega), h.be.grown hg h.be.size (fun k hk => by have := h.fu.own; injection hk with hk; omega)⟩
theorem Dm.setq {w u : World} {bv bu bq n T N j : Nat} {v U q : Nat → Int} {x : Int} (h : Dm w u bv bu bq n T N v U q) (h1 : bv < bu) (h2 : bu < bq) (hj : j < N) (hx : 0 ≤ x ∧ x < 18446744073709551616) : Dm w (u.setCell ⟨bq, j, none⟩ (.int .u64 x)) bv bu bq n T N v U (fun t => if t = j then x else q t) :=
  have hg := gb_set u ⟨bq, j, none⟩ (.int .u64 x)
  ⟨h.fv.grown hg (fun e => by have := Option.some.inj e; simp at this; omega), h.fu.grown hg (fun e => by have := Option.some.inj e; simp at this; omega), h.fq.set hj hx, h.be.grown hg h.be.size (fun k hk => by have := h.fq.own; injection hk with hk; simp at hk; omega)⟩
theorem ovr_bd {U F : Nat → Int} {o n T : Nat} (hU : ∀ t, t < T → 0 ≤ U t ∧ U t < 18446744073709551616) (hF : ∀ t, 0 ≤ F t ∧ F t < 18446744073709551616) (t : Nat) (ht : t < T) : 0 ≤ ovr U F o n t ∧ ovr U F o n t < 18446744073709551616 := by
  unfold ovr; split
  · exact hF _
  · exact hU t ht
theorem take_all {w u : World} {bv bu bq n T N j : Nat} {v U q : Nat → Int} {d : Int} (h : Dm w u bv bu bq n T N v U q) (h1 : bv < bu) (h2 : bu < bq) (hj : j + n + 1 ≤ T) (hT : T ≤ 17592186044416) (hd : 0 ≤ d ∧ d < 18446744073709551616) :
    Calls Try.prog 198 #[.slice (some ⟨bu, j, none⟩) (n + 1) (T - j), .slice (some ⟨bv, 0, none⟩) n n, .int .u64 d] u fun e w' => e = .returned (.bool (wb (fun i => U (j + i)) (prw v d n) (n + 1) != 0)) ∧ Dm w w' bv bu bq n T N v (ovr U (we (fun i => U (j + i)) (prw v d n)) j (n + 1)) q := by
  refine (take_any bu j n T (T - j) U (some ⟨bv, 0, none⟩) n v d u hj hT hd h.fu.blk h.fu.row h.fu.bd (h.fv.rd (by omega)) (fun _ => some_ne (by omega))).mono ?_
  rintro e w' ⟨rfl, k1, k2, k3⟩
  exact ⟨rfl, h.turn h1 h2 k1 k2 (ovr_bd h.fu.bd (we_bd _ _)) k3⟩
theorem give_all {w u : World} {bv bu bq n T N j : Nat} {v U q : Nat → Int} (h : Dm w u bv bu bq n T N v U q) (h1 : bv < bu) (h2 : bu < bq) (hj : j + n + 1 ≤ T) (hT : T ≤ 17592186044416) :
    Calls Try.prog 199 #[.slice (some ⟨bu, j, none⟩) (n + 1) (T - j), .slice (some ⟨bv, 0, none⟩) n n] u fun e w' => e = .returned (.tuple #[]) ∧ Dm w w' bv bu bq n T N v (ovr U (wd (fun i => U (j + i)) (zw v n)) j (n + 1)) q := by
  refine (give_any bu j n T (T - j) U (some ⟨bv, 0, none⟩) n v u hj hT h.fu.blk h.fu.row h.fu.bd (h.fv.rd (by omega)) (fun _ => some_ne (by omega))).mono ?_
  rintro e w' ⟨rfl, k1, k2, k3⟩
  exact ⟨rfl, h.turn h1 h2 k1 k2 (ovr_bd h.fu.bd (wd_bd _ _)) k3⟩
theorem long_any (ax ay : Option Addr) (nx n cx cy : Nat) (f g : Nat → Int) (w : World) (hnx : nx ≤ 1099511627776) (h2 : 2 ≤ n) (hle : n ≤ nx) (hx : RdW w (.slice ax nx cx) nx f) (hy : RdW w (.slice ay n cy) n g) (htop : g (n - 1) ≠ 0) :
    Calls Try.prog 190 #[.slice ax nx cx, .slice ay n cy] w fun e w' => ∃ q r, e = .returned (.tuple #[q, r]) ∧ FrN w' w.heap.size q (natFrom f 0 nx / natFrom g 0 n) ∧ FrN w' w.heap.size r (natFrom f 0 nx % natFrom g 0 n) ∧ Below w.heap.size w w' := by
  obtain ⟨p1, hp1⟩ : ∃ p1, n = p1 + 1 := ⟨n - 1, by omega⟩
  obtain ⟨m, hm⟩ : ∃ m, p1 = m + 1 := ⟨p1 - 1, by omega⟩
  have hfb := words_bd hx.2
  have hgb := words_bd hy.2
  rw [show n - 1 = p1 by omega] at htop
  obtain ⟨_, _, e2, g1, g2, g3⟩ := wd_get hy.1
  simp only [Value.slice.injEq, true_and] at e2
  obtain ⟨rfl, rfl⟩ := e2
  obtain ⟨yb, yo, rfl, hcy⟩ := g3 p1 (by omega)
  obtain ⟨y0, y1⟩ := hgb p1 (by omega)
  -- how far
  obtain ⟨s, hs, hse, hs1, hs2⟩ : ∃ s : Nat, s < 64 ∧ 64 - (Lib.bitLen (g p1).toNat : Int) = s ∧ 9223372036854775808 ≤ g p1 * 2 ^ s ∧ g p1 * 2 ^ s < 18446744073709551616 := by
    obtain ⟨s, a1, a2, a3, a4⟩ := bits_split (g p1).toNat (by omega) (by omega)
    have e : g p1 * 2 ^ s = (((g p1).toNat * 2 ^ s : Nat) : Int) := by
      rw [Int.natCast_mul, Int.toNat_of_nonneg y0]; simp
    exact ⟨s, a1, a2, by rw [e]; omega, by rw [e]; omega⟩
  have hlz := LeadingZeros64_any (g p1) w y0 (by omega)
  rw [hse] at hlz
  have hno := norm_ok (n := p1) hfb (by rw [← hp1]; exact hgb) hs hs1 hs2 (by omega)
  rw [← hp1] at hno
  obtain ⟨n1, k2, n3, n4, n5, n6⟩ := hno
  have sv := fun (u : World) (hb : Below w.heap.size w u) => shifted_any (some ⟨yb, yo, none⟩) n cy n s g u hs (by omega) (hy.below hb)
  have su := fun (u : World) (hb : Below w.heap.size w u) => shifted_any ax nx cx (nx + 1) s f u hs (by omega) (hx.below hb)
  rw [← natFrom_dv0 g n] at n1 n4 n5 n6
  rw [← natFrom_dv0 f nx] at k2 n5
  have hm1 := mul_cancel_div (X := natFrom f 0 nx) (Y := natFrom g 0 n) (P := 2 ^ s) (pow_pos' (by omega) s)
  generalize natFrom f 0 nx = X at *
  generalize natFrom g 0 n = Y at *
  generalize hv : shd (zw g n) s = v at *
  generalize hU0 : shd (zw f nx) s = U0 at *
  have su : ∀ u, Below w.heap.size w u → Calls Try.prog 196 #[.slice ax nx cx, .int .u64 s, .int .i64 ((nx : Int) + 1)] u fun e w' => ∃ b, e = .returned (.slice (some ⟨b, 0, none⟩) (nx + 1) (nx + 1)) ∧ FrR w' u.heap.size b (nx + 1) U0 ∧ Below u.heap.size u w' := by
    rw [← show ((nx + 1 : Nat) : Int) = (nx : Int) + 1 by omega]; exact su
  obtain ⟨N, hN⟩ : ∃ N, N = nx - p1 := ⟨_, rfl⟩
  have hNe : nx + 1 = N + n := by omega
  have mk : ∀ u : World, (Instr.makeSlice 47 (.int .i64 ((nx : Int) - n + 1)) (.int .i64 ((nx : Int) - n + 1))).run Try.prog u =
      .ok (.slice (some ⟨u.heap.size, 0, none⟩) N N) (u.alloc (.cells (madeCells #[.int .u64 0] N) 62)) := by
    rw [show (nx : Int) - n + 1 = (N : Int) by omega]; exact mk_words N (by omega)
  have hj0 : (nx : Int) - n = (N : Int) - 1 := by omega
  have hn1 : (n : Int) - 1 = (p1 : Int) := by omega
  have hn2 : (n : Int) - 2 = (m : Int) := by omega
  have HLZ := Lib.hid hlz
  have SV := Lib.hid sv
  have SU := Lib.hid su
  have MK := Lib.hid mk
  have N1 := Lib.hid n1
  have N2 := Lib.hid k2
  have N3 := Lib.hid n3
  have N5 := Lib.hid n5
  have N46 := Lib.hid (And.intro n4 n6)
  have HM1 := Lib.hid hm1
  have HNM := Lib.hid (And.intro hp1 (And.intro hm (And.intro hN hNe)))
  have HCY := Lib.hid hcy
  have p1b : p1 < n := by omega
  have p1c : m < n := by omega
  have HJ := Lib.hid hj0
  have HN12 := Lib.hid (And.intro hn1 hn2)
  clear hlz sv su mk n1 k2 n3 n4 n5 n6 hm1 hp1 hm hN hNe hcy hx hy hfb hgb g3 htop hse hs1 hs2 hv hU0 hj0 hn2
  have hcy := HCY.out
  generalize g p1 = gp at *
  go_enter Try.func190, Try.ntmps190
  go_wp2_with (go_at_call 195; (with_reducible refine HLZ.out.mono ?_); rintro e w' ⟨rfl, rfl⟩)
  (refine (SV.out w (Below.refl _ _)).mono ?_)
  rintro e w1 ⟨bv, rfl, fv, hb1⟩
  clear hcy hn1
  go_wp2_with fail
  (refine (SU.out w1 hb1).mono ?_)
  rintro e w2 ⟨bu, rfl, fu, hb2⟩
  have FV := Lib.hid (fv.below hb2)
  have FU := Lib.hid fu
  have hlt1 := fv.lt
  have hlt2 := fu.own
  have hlt3 := fu.lt
  have hlt0 := fv.own
  have HB := Lib.hid (hb1.trans (hb2.mono hb1.size))
  have hs01 := hb1.size
  have mk := MK.out
  clear fv fu hb1 hb2
  go_wp2_with fail
  have hr0 := (CellsAt.row (f := fun _ => 0) (CellsAt.made w2 (.int .u64 0) N 62))
  have hk0 := Blk.made w2 (.int .u64 0) N 62
  have hb3 : Below w2.heap.size w2 (w2.alloc (.cells (madeCells #[.int .u64 0] N) 62)) := (Below.refl _ _).alloc (Nat.le_refl _) _
  have FQ := Lib.hid (show FrR (w2.alloc (.cells (madeCells #[.int .u64 0] N) 62)) w2.heap.size w2.heap.size N (fun _ => 0) from ⟨Nat.le_refl _, hk0, hr0, fun _ _ => ⟨Int.le_refl 0, by show (0 : Int) < _; decide⟩⟩)
  have FV := Lib.hid (FV.out.below hb3)
  have FU := Lib.hid (FU.out.below hb3)
  have HB := Lib.hid (HB.out.trans (hb3.mono HB.out.size))
  clear hr0 hk0 hb3 mk MK
  generalize w2.alloc (.cells (madeCells #[.int .u64 0] N) 62) = w3 at FQ FV FU HB ⊢
  generalize w2.heap.size = bq at FQ hlt3 ⊢
  go_loopw [11] (fun iv wr => ∃ (k : Nat) (U q : Nat → Int), k ≤ N ∧ iv = .int .i64 ((k : Int) - 1) ∧ Dm w wr bv bu bq n (nx + 1) N v U q ∧ Hid (Ldiv (X * 2 ^ s) (Y * 2 ^ s) U q N n k)) (fun iv _ => (intOf iv + 1).toNat)
  case atStart =>
    refine ⟨N, U0, _, Nat.le_refl _, by rw [HJ.out], ⟨FV.out, FU.out.mono (by omega), FQ.out.mono (by omega), HB.out⟩, ?_⟩
    have hNe := HNM.out.2.2.2
    refine Ldiv.start (q := fun _ => 0) (fun t ht => FU.out.bd t (by omega)) (by rw [← hNe]; exact N2.out) ?_
    have := N5.out
    have hp := HNM.out
    rwa [show nx - p1 = N by omega] at this
  case round =>
    clear FV FU FQ HB
    obtain ⟨k, U, q, k1, rfl, hdm, hL⟩ := hrel
    have fv := hdm.fv
    have fu := hdm.fu
    rcases Nat.eq_zero_or_pos k with e | hk
    · subst e
      have hNe := HNM.out
      obtain ⟨m1, m2⟩ := prefW bu (nx + 1) n (by omega)
      have hdn := hL.out.done (Int.mul_pos N46.out.1 (pow_pos' (by omega) s))
      rw [HM1.out.1, HM1.out.2] at hdn
      have hrd : RdW wr (.slice (some ⟨bu, 0, none⟩) n (nx + 1)) n U := ⟨⟨_, _, rfl, by omega, by omega, fun _ => ⟨bu, 0, rfl, fun i hi => (fu.row i (by omega)).1⟩⟩, fun i hi => by have := fu.bd i (by omega); omega⟩
      have hsh := Shr_any (some ⟨bu, 0, none⟩) n (nx + 1) s U wr hs hrd
      rw [natFrom_dv0, hdn.2, Int.mul_ediv_cancel _ (by have := pow_pos' (show (0 : Int) < 2 by omega) s; omega)] at hsh
      have HSH := Lib.hid hsh
      have HDM := Lib.hid hdm
      have HDN := Lib.hid hdn.1
      clear hdm hL hdn hrd hsh fv fu hNe
      go_wp2_with fail
      (refine HSH.out.mono ?_)
      rintro e w5 ⟨r, rfl, hr, hb5⟩
      obtain ⟨ra, rn, rc, rf, rfl, hr1, hr2⟩ := hr.nat
      have hlq := natLeast_fr _ N q w5 ((HDM.out.fq.below hb5).rd (by have := HNM.out; omega))
      rw [natFrom_dv0, HDN.out] at hlq
      have HR := Lib.hid (And.intro (hr1.mono HDM.out.be.size) hr2)
      have HB5 := Lib.hid (HDM.out.be.trans (hb5.mono HDM.out.be.size))
      have HLQ := Lib.hid hlq
      clear hr hb5 hr1 hr2 hlq HSH HDM
      go_wp2_with fail
      (refine HLQ.out.mono ?_)
      rintro e w6 ⟨qv, rfl, hq, hb6⟩
      obtain ⟨qa, qn, qc, qf, rfl, hq1, hq2⟩ := hq.nat
      have HQ := Lib.hid (show FrN w6 w.heap.size _ (X / Y) from ⟨qn, qf, hq1.mono HB5.out.size, hq2⟩)
      have HR2 := Lib.hid (show FrN w6 w.heap.size _ (X % Y) from ⟨rn, rf, HR.out.1.below hb6, HR.out.2⟩)
      have HB6 := Lib.hid (HB5.out.trans (hb6.mono HB5.out.size))
      clear hq hb6 hq1 hq2 HLQ HR HB5
      go_wp2_with fail
      go_ret2
      exact ⟨_, _, rfl, HQ.out, HR2.out, HB6.out⟩
    · obtain ⟨j, rfl⟩ : ∃ j, k = j + 1 := ⟨k - 1, by omega⟩
      have hjz : (0 : Int) ≤ ((j + 1 : Nat) : Int) - 1 := by omega
      have hjn : ((j + 1 : Nat) : Int) - 1 = (j : Int) := by omega
      rw [hjn] at hjz ⊢
      clear hjn
      have hNe := HNM.out
      have i0 : j + n < nx + 1 := by omega
      have i1 : j + p1 < nx + 1 := by omega
      have i2 : j + m < nx + 1 := by omega
      obtain ⟨c2, -⟩ := fu.row.get0 (i := j + n) i0 rfl
      obtain ⟨c1, -⟩ := fu.row.get0 (i := j + p1) i1 rfl
      obtain ⟨c0, -⟩ := fu.row.get0 (i := j + m) i2 rfl
      obtain ⟨d1, -⟩ := fv.row.get0 (i := p1) p1b rfl
      obtain ⟨d0, -⟩ := fv.row.get0 (i := m) p1c rfl
      have e1 : (j : Int) + n - 1 = (j : Int) + p1 := by omega
      have e2 : (j : Int) + n - 2 = (j : Int) + m := by omega
      have e3 : (n : Int) - 1 = (p1 : Int) := HN12.out.1
      have e4 : (n : Int) - 2 = (m : Int) := HN12.out.2
      have r1 : IntKind.i64.wrap ((j : Int) + n) = (j : Int) + n := IntWalk.i64_in _ (by omega)
      have r2 : IntKind.i64.wrap ((j : Int) + p1) = (j : Int) + p1 := IntWalk.i64_in _ (by omega)
      have r3 : IntKind.i64.wrap ((j : Int) + m) = (j : Int) + m := IntWalk.i64_in _ (by omega)
      have r4 : IntKind.i64.wrap (p1 : Int) = p1 := IntWalk.i64_in _ (by omega)
      have r5 : IntKind.i64.wrap (m : Int) = m := IntWalk.i64_in _ (by omega)
      have r6 : IntKind.i64.wrap ((j : Int) + n + 1) = (j : Int) + n + 1 := IntWalk.i64_in _ (by omega)
      have t1 : ((j : Int) + n).toNat = j + n := by omega
      have t2 : ((j : Int) + p1).toNat = j + p1 := by omega
      have t3 : ((j : Int) + m).toNat = j + m := by omega
      have f1 : (j : Int) + n < (nx : Int) + 1 := by omega
      have f2 : (j : Int) + p1 < (nx : Int) + 1 := by omega
      have f3 : (j : Int) + m < (nx : Int) + 1 := by omega
      have f4 : (p1 : Int) < n := by omega
      have f5 : (m : Int) < n := by omega
      have f6 : (0 : Int) ≤ (j : Int) + n := by omega
      have f7 : (0 : Int) ≤ (j : Int) + p1 := by omega
      have f8 : (0 : Int) ≤ (j : Int) + m := by omega
      have hj : j < N := by omega
      have b2 := fu.bd (j + n) i0
      have b1 := fu.bd (j + p1) i1
      have b0 := fu.bd (j + m) i2
      have a1 := fv.bd p1 p1b
      have a0 := fv.bd m p1c
      have hhead : U (j + n) ≤ v p1 := by
        have hL := hL.out
        rw [hNe.1] at hL ⊢
        exact hL.head hj (fun i hi => fv.bd i (by omega)) (by rw [← N1.out, hNe.1])
      have hgu := fun u : World => guess_any (U (j + n)) (U (j + p1)) (U (j + m)) (v p1) (v m) u ⟨b2.1, hhead⟩ b1 b0 ⟨N3.out, a1.2⟩ a0
      have hst := fun d => long_step' (d := d) (show n = m + 2 by omega) (show p1 = m + 1 by omega) hL.out hj fv.bd N1.out.symm N3.out
      obtain ⟨m1, m2⟩ := midW bu (nx + 1) j (j + n + 1) (by omega) (by omega) (by omega)
      rw [show j + n + 1 - j = n + 1 by omega, show ((j + n + 1 : Nat) : Int) = (j : Int) + n + 1 by omega] at m1 m2
      have HGU := Lib.hid hgu
      have HST := Lib.hid hst
      have HDM := Lib.hid hdm
      clear hgu hst hdm fu fv hNe hhead b0 b1 b2 a0 a1
      generalize U (j + n) = u2 at *
      generalize U (j + p1) = u1 at *
      generalize U (j + m) = u0 at *
      generalize v p1 = vh at *
      generalize v m = vl at *
      obtain ⟨wo, hwo⟩ : ∃ wo, wo = wr := ⟨_, rfl⟩
      subst hwo
      go_upto_region 9 with fail
      go_cut [12] (fun dv wx => ∃ d, dv = .int .u64 d ∧ Guess ((u2 * 18446744073709551616 + u1) * 18446744073709551616 + u0) (vh * 18446744073709551616 + vl) d ∧ Dm w wx bv bu bq n (nx + 1) N v U q)
      case first =>
        go_region_held3 (fun w' => w'.cell? ⟨bu, j + n, none⟩ = some (.int .u64 u2) ∧ w'.cell? ⟨bu, j + p1, none⟩ = some (.int .u64 u1) ∧ w'.cell? ⟨bu, j + m, none⟩ = some (.int .u64 u0) ∧ w'.cell? ⟨bv, p1, none⟩ = some (.int .u64 vh) ∧ w'.cell? ⟨bv, m, none⟩ = some (.int .u64 vl)) (go_keep)
          (first
            | (go_at_call 197; (with_reducible refine (HGU.out _).mono ?_); rintro e w' ⟨d, rfl, hg, nd, rfl⟩))
        all_goals
          go_wp2_with fail
          go_meet
          exact ⟨d, rfl, hg, HDM.out.drewN _⟩
      case rest =>
        clear c2 c1 c0 d1 d0 HDM HGU
        obtain ⟨d, rfl, hg, hdm⟩ := hcut
        obtain ⟨s0, s1, s2, s3⟩ := HST.out d hg
        have S2 := Lib.hid s2
        have S3 := Lib.hid s3
        have htk := take_all hdm (by omega) (by omega) (show j + n + 1 ≤ nx + 1 by omega) (by omega) ⟨s0, s1⟩
        have HTK := Lib.hid htk
        clear HST s2 s3 htk hg hdm
        go_wp2_with fail
        (refine HTK.out.mono ?_)
        rintro e w5 ⟨rfl, hdm⟩
        by_cases hz : wb (fun i => U (j + i)) (prw v d n) (n + 1) = 0
        · have hbt : (wb (fun i => U (j + i)) (prw v d n) (n + 1) != 0) = false := by simp [hz]
          rw [hbt]
          obtain ⟨q1, q2⟩ := hdm.fq.row.get0 (i := j) hj rfl
          have HL := Lib.hid (S2.out hz _ (fun t => if t = j then d else q t) (fun _ _ => rfl) (fun t h1 h2 => if_neg (by omega)) (if_pos rfl))
          have HD := Lib.hid (hdm.setq (x := d) (by omega) (by omega) hj ⟨s0, s1⟩)
          clear hz hbt hdm S2 S3 HTK hL
          go_wp2_with fail
          go_roundw
          case rel => exact ⟨j, _, _, by omega, by go_num, HD.out, HL.out⟩
          case measure => simp [intOf]
        · have hbt : (wb (fun i => U (j + i)) (prw v d n) (n + 1) != 0) = true := by rw [bne_iff_ne]; exact hz
          rw [hbt]
          obtain ⟨g0, S4⟩ := S3.out hz
          have HL := Lib.hid (S4 _ (fun t => if t = j then d - 1 else q t) (fun t _ => ovr_ovr) (fun t h1 h2 => if_neg (by omega)) (if_pos rfl))
          have hgv := give_all hdm (by omega) (by omega) (show j + n + 1 ≤ nx + 1 by omega) (by omega)
          have HGV := Lib.hid hgv
          clear hz hbt hdm S2 S3 S4 HTK hL hgv
          have g1' : 0 ≤ d - 1 := by omega
          have g2' : d - 1 < 18446744073709551616 := by omega
          go_wp2_with fail
          (refine HGV.out.mono ?_)
          rintro e w6 ⟨rfl, hdm⟩
          obtain ⟨q1, q2⟩ := hdm.fq.row.get0 (i := j) hj rfl
          have HD := Lib.hid (hdm.setq (x := d - 1) (by omega) (by omega) hj ⟨g1', g2'⟩)
          clear hdm HGV
          go_wp2_with fail
          go_roundw
          case rel => exact ⟨j, _, _, by omega, by go_num, HD.out, HL.out⟩
          case measure => simp [intOf]
end Go.Proofs.Ytejliecmdkmgiaa
namespace Go.Proofs.Ytejliecmdkmgiaa
open Go.RowKit
theorem FrN.zero (w : World) (base : Nat) : FrN w base (.slice none 0 0) 0 := ⟨0, fun _ => 0, Or.inl ⟨rfl, rfl⟩, ⟨fun i h => absurd h (by omega), fun h => absurd h (by omega), rfl⟩⟩
theorem FrN.below {w w' : World} {base : Nat} {v : Value} {N : Int} (h : FrN w base v N) (hb : Below w.heap.size w w') : FrN w' base v N := by
  obtain ⟨n, f, h1, h2⟩ := h
  exact ⟨n, f, h1.below hb, h2⟩
theorem FrN.mono {w : World} {base base' : Nat} {v : Value} {N : Int} (h : FrN w base v N) (hb : base' ≤ base) : FrN w base' v N := by
  obtain ⟨n, f, h1, h2⟩ := h
  exact ⟨n, f, h1.mono hb, h2⟩
theorem FrR.toN {w : World} {base b n : Nat} {F : Nat → Int} (h : FrR w base b n F) (hn : n ≤ 17592186044416) (ht : 0 < n → F (n - 1) ≠ 0) : FrN w base (.slice (some ⟨b, 0, none⟩) n n) (dv 18446744073709551616 F n) :=
  ⟨n, F, Or.inr ⟨b, n, rfl, Nat.le_refl _, hn, h.own, h.blk, h.row⟩, ⟨h.bd, ht, rfl⟩⟩
theorem DivMod_any (x y : Value) (n m : Nat) (f g : Nat → Int) (w : World) (hn : n ≤ 1099511627776) (hM : natFrom g 0 m ≠ 0) (hx : RdW w x n f) (hy : RdW w y m g) :
    Calls Try.prog 178 #[x, y] w fun e w' => ∃ q r, e = .returned (.tuple #[q, r, .int .i64 0]) ∧ FrN w' w.heap.size q (natFrom f 0 n / natFrom g 0 m) ∧ FrN w' w.heap.size r (natFrom f 0 n % natFrom g 0 m) ∧ Below w.heap.size w w' := by
  obtain ⟨ax, cx, rfl, -⟩ := hx.1
  obtain ⟨ay, cy, rfl, -, hmb, -⟩ := hy.1
  have hfb := words_bd hx.2
  have hgb := words_bd hy.2
  have hlx := fun (u : World) (hb : Below w.heap.size w u) => natLeast_any _ n f u (hx.below hb).1
  have hly := natLeast_any _ m g w hy.1
  have hpx := sz_le f n
  have hpy := sz_le g m
  have hvx := dv_cut (n := n) f
  have hvy := dv_cut (n := m) g
  have htx := sz_top f n
  have hty := sz_top g m
  have hwd := fun (u : World) (hb : Below w.heap.size w u) (d : Int) (hd : 0 < d ∧ d < 18446744073709551616) => Word_any ax n cx f d u hd (hx.below hb)
  rw [← natFrom_dv0 f n] at hvx
  rw [← natFrom_dv0 g m] at hvy
  generalize natFrom f 0 n = X at *
  generalize natFrom g 0 m = Y at *
  generalize sz f n = p at *
  generalize sz g m = q at *
  have hq0 : 0 < q := by
    refine Nat.pos_of_ne_zero fun e => ?_
    subst e
    exact hM hvy.symm
  have hX0 : 0 ≤ X := by rw [← hvx]; exact (dv_bd (by omega) (fun i hi => hfb i (by omega))).1
  have hY0 : 0 < Y := by
    have h := (dv_bd (B := 18446744073709551616) (n := q) (by omega) (fun i hi => hgb i (by omega))).1
    rw [hvy] at h; omega
  have HLX := Lib.hid hlx
  have HLY := Lib.hid hly
  have HWD := Lib.hid hwd
  have HVX := Lib.hid hvx
  have HVY := Lib.hid hvy
  have HTX := Lib.hid htx
  have HTY := Lib.hid (hty hq0)
  have HFB := Lib.hid (fun i (hi : i < p) => hfb i (by omega))
  have HGB := Lib.hid (fun i (hi : i < q) => hgb i (by omega))
  have HX0 := Lib.hid hX0
  have HY0 := Lib.hid hY0
  clear hlx hly hwd hvx hvy htx hty hfb hgb hx hy hM hX0 hY0
  go_enter Try.func178, Try.ntmps178
  go_wp2_with fail
  (refine HLY.out.mono ?_)
  rintro e w1 ⟨b1, rfl, k1, k2, k3, hb1⟩
  have FY := Lib.hid (show FrR w1 w.heap.size b1 q g from ⟨k1, k2, k3, HGB.out⟩)
  have HB1 := Lib.hid hb1
  clear k1 k2 k3 hb1 HLY
  by_cases h1 : q = 1
  · subst h1
    obtain ⟨c0, -⟩ := FY.out.row.get0 (i := 0) (by omega) rfl
    have hy1 : dv 18446744073709551616 g 1 = g 0 := by simp only [dv, Int.pow_zero, Int.mul_one, Int.zero_add]
    have hg0 : g 0 = Y := by rw [← HVY.out, hy1]
    rw [hg0] at c0
    have hyb := HGB.out 0 (by omega)
    rw [hg0] at hyb
    have hw := HWD.out w1 HB1.out Y ⟨HY0.out, hyb.2⟩
    have hr0 := Int.emod_nonneg X (show Y ≠ 0 by have := HY0.out; omega)
    have hr1 := Int.emod_lt_of_pos X HY0.out
    have hrb : X % Y < 18446744073709551616 := by omega
    obtain ⟨r, hr⟩ : ∃ r, r = X % Y := ⟨_, rfl⟩
    rw [← hr] at hw hr0 hrb
    have HRE := Lib.hid hr
    have HW := Lib.hid hw
    clear hw hy1 hg0 hr1 hr
    go_wp2_with fail
    (refine HW.out.mono ?_)
    rintro e w2 ⟨v, rfl, hv, hb2⟩
    obtain ⟨va, vn, vc, vf, rfl, hv1, hv2⟩ := hv.nat
    have HV := Lib.hid (show FrN w2 w.heap.size _ (X / Y) from ⟨vn, vf, hv1.mono HB1.out.size, hv2⟩)
    have HB2 := Lib.hid (HB1.out.trans (hb2.mono HB1.out.size))
    clear hv hb2 hv1 hv2 HW c0 FY
    have hb3 : Below w2.heap.size w2 (w2.alloc (.cells #[.int .u64 r] 62)) := (Below.refl _ _).alloc (Nat.le_refl _) _
    have hc := (cells_list (w := w2.alloc (.cells #[.int .u64 r] 62)) (b := w2.heap.size) (n := 1) (e := 62) (F := fun _ => .int .u64 r) (heap_alloc_new w2 _)).2
    have hrd : RdW (w2.alloc (.cells #[.int .u64 r] 62)) (.slice (some ⟨w2.heap.size, 0, none⟩) 1 1) 1 (fun _ => r) := ⟨⟨_, 1, rfl, Nat.le_refl _, by omega, fun _ => ⟨_, 0, rfl, fun i hi => (hc i hi).1⟩⟩, fun i _ => by show 0 ≤ r ∧ r ≤ _; omega⟩
    have hl := natLeast_fr _ 1 (fun _ => r) _ hrd
    have hn1 : natFrom (fun _ => r) 0 1 = r := by show r + 18446744073709551616 * 0 = r; omega
    rw [hn1] at hl
    have HL := Lib.hid hl
    have HV := Lib.hid (HV.out.below hb3)
    have HB3 := Lib.hid (HB2.out.trans (hb3.mono HB2.out.size))
    clear hb3 hc hrd hl hn1
    go_wp2_with fail
    (refine HL.out.mono ?_)
    rintro e w4 ⟨rv, rfl, hrv, hb4⟩
    obtain ⟨ra, rn, rc, rf, rfl, hr1, hr2⟩ := hrv.nat
    have HRV := Lib.hid (show FrN w4 w.heap.size _ (X % Y) from by rw [← HRE.out]; exact ⟨rn, rf, hr1.mono HB3.out.size, hr2⟩)
    have HV := Lib.hid (HV.out.below hb4)
    have HB4 := Lib.hid (HB3.out.trans (hb4.mono HB3.out.size))
    clear hrv hb4 hr1 hr2 HL HB3
    go_wp2_with fail
    go_ret3
    exact ⟨_, _, rfl, HV.out, HRV.out, HB4.out⟩
  · have hq2 : 2 ≤ q := by omega
    have q0 : ((q : Int) == 0) = false := beq_eq_false_iff_ne.2 (by omega)
    have q1 : ((q : Int) == 1) = false := beq_eq_false_iff_ne.2 (by omega)
    go_wp2_with fail
    (refine (HLX.out w1 HB1.out).mono ?_)
    rintro e w2 ⟨b2, rfl, k1, k2, k3, hb2⟩
    have FX := Lib.hid (show FrR w2 w.heap.size b2 p f from ⟨Nat.le_trans HB1.out.size k1, k2, k3, HFB.out⟩)
    have FY := Lib.hid (FY.out.below hb2)
    have HB2 := Lib.hid (HB1.out.trans (hb2.mono HB1.out.size))
    clear k1 k2 k3 hb2 HLX HB1
    have hc := natCmp_any _ _ p q f g w2 (FX.out.rd (by omega)) (FY.out.rd (by omega))
    rw [natFrom_dv0, natFrom_dv0, HVX.out, HVY.out] at hc
    go_wp2_with fail
    by_cases hlt : X < Y
    · have hcv : cmpZ X Y = -1 := if_pos hlt
      rw [hcv] at hc
      (refine hc.mono ?_)
      rintro e w3 ⟨rfl, hb3⟩
      have HR := Lib.hid (show FrN w3 w.heap.size _ (X % Y) from by rw [Int.emod_eq_of_lt HX0.out hlt, ← HVX.out]; exact (FX.out.toN (by omega) HTX.out).below hb3)
      have HQ := Lib.hid (show FrN w3 w.heap.size (.slice none 0 0) (X / Y) from by rw [Int.ediv_eq_zero_of_lt HX0.out hlt]; exact FrN.zero _ _)
      have HB3 := Lib.hid (HB2.out.trans (hb3.mono HB2.out.size))
      clear hc hb3 hcv hlt
      go_wp2_with fail
      go_ret3
      exact ⟨_, _, rfl, HQ.out, HR.out, HB3.out⟩
    · have hcv : 0 ≤ cmpZ X Y := by unfold cmpZ; rw [if_neg hlt]; split <;> omega
      generalize cmpZ X Y = cc at hc hcv
      (refine hc.mono ?_)
      rintro e w3 ⟨rfl, hb3⟩
      have hqp : q ≤ p := by
        have hd1 : Dig 18446744073709551616 q g Y := ⟨HGB.out, fun _ => HTY.out, HVY.out⟩
        exact hd1.len (by omega) (Int.lt_of_le_of_lt (show Y ≤ X by omega) (by rw [← HVX.out]; exact (dv_bd (by omega) HFB.out).2))
      have hlo := long_any (some ⟨b2, 0, none⟩) (some ⟨b1, 0, none⟩) p q p q f g w3 (by omega) hq2 hqp ((FX.out.rd (by omega)).below hb3) ((FY.out.rd (by omega)).below hb3) HTY.out
      rw [natFrom_dv0, natFrom_dv0, HVX.out, HVY.out] at hlo
      have HLO := Lib.hid hlo
      have HB3 := Lib.hid (HB2.out.trans (hb3.mono HB2.out.size))
      clear hc hb3 hlt hlo
      go_wp2_with fail
      (refine HLO.out.mono ?_)
      rintro e w4 ⟨qv, rv, rfl, hqv, hrv, hb4⟩
      obtain ⟨ra, rn, rc, rf, rfl, hr1, hr2⟩ := hrv.nat
      obtain ⟨qa, qn, qc, qf, rfl, hq1, hq2'⟩ := hqv.nat
      have HR := Lib.hid (hrv.mono HB3.out.size)
      have HQ := Lib.hid (hqv.mono HB3.out.size)
      have HB4 := Lib.hid (HB3.out.trans (hb4.mono HB3.out.size))
      clear hqv hrv hb4 hr1 hr2 hq1 hq2' HLO
      go_wp2_with fail
      go_ret3
      exact ⟨_, _, rfl, HQ.out, HR.out, HB4.out⟩
theorem natExact_any (x y : Value) (n m : Nat) (f g : Nat → Int) (w : World) (hn : n ≤ 1099511627776) (hM : natFrom g 0 m ≠ 0) (hd : natFrom f 0 n % natFrom g 0 m = 0) (hx : RdW w x n f) (hy : RdW w y m g) :
    Calls Try.prog 156 #[x, y] w fun e w' => ∃ q, e = .returned (.tuple #[q, .int .i64 0]) ∧ FrN w' w.heap.size q (natFrom f 0 n / natFrom g 0 m) ∧ Below w.heap.size w w' := by
  have hdm := DivMod_any x y n m f g w hn hM hx hy
  rw [hd] at hdm
  obtain ⟨ax, cx, rfl, -⟩ := hx.1
  obtain ⟨ay, cy, rfl, -⟩ := hy.1
  have HDM := Lib.hid hdm
  clear hdm hx hy hd
  go_enter Try.func156, Try.ntmps156
  go_wp2_with fail
  (refine HDM.out.mono ?_)
  rintro e w1 ⟨q, r, rfl, hq, hr, hb⟩
  obtain ⟨ra, rn, rc, rf, rfl, hr1, hr2⟩ := hr.nat
  obtain ⟨qa, qn, qc, qf, rfl, hq1, hq2⟩ := hq.nat
  obtain rfl : rn = 0 := (hr2.zero_iff (by omega)).2 rfl
  have HQ := Lib.hid hq
  have HB := Lib.hid hb
  clear hq hr hb hr1 hr2 hq1 hq2 HDM
  go_wp2_with fail
  go_ret2
  exact ⟨_, rfl, HQ.out, HB.out⟩
end Go.Proofs.Ytejliecmdkmgiaa
