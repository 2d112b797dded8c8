/- math/bits: LeadingZeros64 by bitLen; Div64 by division. -/
import Derived.Test.YtdlpemmoobbgnaaLen64
import Derived.WalkKit
import Derived.WalkSpells
import Derived.WalkLawsBesides
import Derived.Lib.Hide
import Derived.Lib.BitFns
import Derived.Test.YtdlpemmoobbgnaaDiv64P
set_option linter.unusedVariables false
set_option linter.unusedSimpArgs false
namespace Go.Proofs.Ytdlpemmoobbgnaa
open Go.RowKit

theorem LeadingZeros64_any (x : Int) (w : World) (h0 : 0 ≤ x) (h1 : x ≤ 18446744073709551615) :
    Calls Try.prog 105 #[.int .u64 x] w fun e w' => e = .returned (.int .i64 (64 - (Lib.bitLen x.toNat : Int))) ∧ w = w' := by
  have l := Lib.bitLen_le x.toNat 64 (by omega) (by omega)
  go_enter Try.func105, Try.ntmps105
  go_wp2_with (go_at_call 127; refine (Len64_any x _ h0 h1).mono ?_; rintro e w' ⟨rfl, rfl⟩)
  go_ret
  exact ⟨rfl, rfl⟩

set_option maxHeartbeats 2000000 in
/-- Div64, every value on its way named ahead. -/
theorem Div64_core (hi lo y : Int) (w : World) (h0 : 1 ≤ hi) (h1 : hi < y) (h2 : y ≤ 18446744073709551615) (h3 : 0 ≤ lo) (h4 : lo ≤ 18446744073709551615) (s : Nat) (hs : s < 64)
    (hs1 : Hid (64 - (Lib.bitLen y.toNat : Int) = s)) (Y v1 v0 A u L un1 un0 Q Q2 a1 a2 a3 u2 b1 b2 b3 b4 rem : Int)
    (hY : IntKind.u64.wrap (y * 2 ^ s) = Y) (hv1 : Y / 4294967296 = v1) (hv0 : bits BinOp.and IntKind.u64 Y 4294967295 = v0) (hA : IntKind.u64.wrap (hi * 2 ^ s) = A)
    (hu : bits BinOp.or IntKind.u64 A (lo / 2 ^ (64 - s)) = u) (hL : IntKind.u64.wrap (lo * 2 ^ s) = L) (hun1 : L / 4294967296 = un1) (hun0 : bits BinOp.and IntKind.u64 L 4294967295 = un0)
    (ha1 : IntKind.u64.wrap (u * 4294967296) = a1) (ha2 : IntKind.u64.wrap (a1 + un1) = a2) (ha3 : IntKind.u64.wrap (Q * Y) = a3) (ha4 : IntKind.u64.wrap (a2 - a3) = u2)
    (hb1 : IntKind.u64.wrap (u2 * 4294967296) = b1) (hb2 : IntKind.u64.wrap (b1 + un0) = b2) (hb3 : IntKind.u64.wrap (Q2 * Y) = b3) (hb4 : IntKind.u64.wrap (b2 - b3) = b4)
    (hrem : b4 / 2 ^ s = rem)
    (cY : 1 ≤ Y) (cY' : Y ≤ 18446744073709551615) (cv1 : 2147483648 ≤ v1) (cv1' : v1 ≤ 4294967295) (cv0 : 0 ≤ v0) (cv0' : v0 ≤ 4294967295) (cu : 0 ≤ u) (cuY : u < Y) (cL : 0 ≤ L) (cL' : L ≤ 18446744073709551615)
    (cun1 : 0 ≤ un1) (cun1' : un1 ≤ 4294967295) (cun0 : 0 ≤ un0) (cun0' : un0 ≤ 4294967295) (cu2 : 0 ≤ u2) (cu2Y : u2 < Y) (cb4 : 0 ≤ b4) (cb4' : b4 ≤ 18446744073709551615)
    (HY : Hid (Y = v1 * 4294967296 + v0)) (HQ : Hid ((u * 4294967296 + un1) / Y = Q)) (HQ2 : Hid ((u2 * 4294967296 + un0) / Y = Q2)) :
    Calls Try.prog 78 #[.int .u64 hi, .int .u64 lo, .int .u64 y] w fun e w' => e = .returned (.tuple #[.int .u64 (Q * 4294967296 + Q2), .int .u64 rem]) ∧ w = w' := by
  have y0 : (y == 0) = false := beq_eq_false_iff_ne.2 (by omega)
  have hi0 : (hi == 0) = false := beq_eq_false_iff_ne.2 (by omega)
  obtain ⟨d1, d2, d3, d4, -, -⟩ := dv.digit u un1 Y Q (by omega) cu cun1 (by omega) cuY HQ.out
  obtain ⟨e1, e2, e3, e4, -, -⟩ := dv.digit u2 un0 Y Q2 (by omega) cu2 cun0 (by omega) cu2Y HQ2.out
  obtain ⟨g1, g2, g3, g4, g5, g6⟩ := dv.guess v1 v0 u un1 Y Q _ HY.out cv0 (by omega) cv1 cu cuY (by omega) d1 d3 rfl
  obtain ⟨k1, k2, k3, k4, k5, k6⟩ := dv.guess v1 v0 u2 un0 Y Q2 _ HY.out cv0 (by omega) cv1 cu2 cu2Y (by omega) e1 e3 rfl
  have D3 := Lib.hid d3
  have D4 := Lib.hid d4
  have E3 := Lib.hid e3
  have E4 := Lib.hid e4
  clear d3 d4 e3 e4
  go_enter Try.func78, Try.ntmps78
  go_wp2_with (go_at_call 105; refine (LeadingZeros64_any y _ (by omega) h2).mono ?_; rintro e w' ⟨rfl, rfl⟩; rw [hs1.out])
  go_loop [15, 16] (fun qq rr => ∃ q r : Int, Q ≤ q ∧ q ≤ 4294967298 ∧ 0 ≤ r ∧ r < 4294967296 ∧ Hid (q * v1 + r = u) ∧ qq = .int .u64 q ∧ rr = .int .u64 r) (fun qq _ => (intOf qq).toNat)
  case atStart => exact ⟨u / v1, u - u / v1 * v1, g1, g3, by omega, by omega, (by show _ = _; omega), rfl, rfl⟩
  case round =>
    obtain ⟨q, r, r1, r2, r3, r4, r5, rfl, rfl⟩ := hrel
    by_cases hbig : 4294967296 ≤ q
    · have N := Lib.hid (dv.less q r v1 v0 u un1 Y Q HY.out r5.out r1 D3.out (by omega) (by omega) cuY (Or.inl hbig))
      by_cases hover : 4294967296 ≤ r + v1
      · have M := dv.stop' (q - 1) (r + v1) v1 v0 u un1 Y Q HY.out (dv.next q r v1 u r5.out) N.out D4.out (by omega) (by have := N.out; omega) cv0 (by omega) (by omega) cuY cun1 hover
        obtain rfl : q = Q + 1 := by omega
        go_wp2
        go_loop [18, 16] (fun qq rr => ∃ q r : Int, Q2 ≤ q ∧ q ≤ 4294967298 ∧ 0 ≤ r ∧ r < 4294967296 ∧ Hid (q * v1 + r = u2) ∧ qq = .int .u64 q ∧ rr = .int .u64 r) (fun qq _ => (intOf qq).toNat)
        case atStart => exact ⟨u2 / v1, u2 - u2 / v1 * v1, k1, k3, by omega, by omega, (by show _ = _; omega), rfl, rfl⟩
        case round =>
          obtain ⟨q, r, r1, r2, r3, r4, r5, rfl, rfl⟩ := hrel
          by_cases hbig : 4294967296 ≤ q
          · have N := Lib.hid (dv.less q r v1 v0 u2 un0 Y Q2 HY.out r5.out r1 E3.out (by omega) (by omega) cu2Y (Or.inl hbig))
            by_cases hover : 4294967296 ≤ r + v1
            · have M := dv.stop' (q - 1) (r + v1) v1 v0 u2 un0 Y Q2 HY.out (dv.next q r v1 u2 r5.out) N.out E4.out (by omega) (by have := N.out; omega) cv0 (by omega) (by omega) cu2Y cun0 hover
              obtain rfl : q = Q2 + 1 := by omega
              go_wp2
              go_ret2
              exact ⟨rfl, rfl⟩
            · go_wp2
              go_round
              case rel => exact ⟨q - 1, r + v1, N.out, by omega, by omega, by omega, dv.next q r v1 u2 r5.out, rfl, rfl⟩
              case measure => simp [intOf]; omega
          · obtain ⟨m1, m2⟩ := dv.prod_bd q v0 (by omega) (by omega) cv0 cv0'
            by_cases ht : 4294967296 * r + un0 < q * v0
            · have N := Lib.hid (dv.less q r v1 v0 u2 un0 Y Q2 HY.out r5.out r1 E3.out (by omega) (by omega) cu2Y (Or.inr ht))
              have hq1 : 1 ≤ q := by have := N.out; omega
              by_cases hover : 4294967296 ≤ r + v1
              · have M := dv.stop' (q - 1) (r + v1) v1 v0 u2 un0 Y Q2 HY.out (dv.next q r v1 u2 r5.out) N.out E4.out (by omega) (by have := N.out; omega) cv0 (by omega) (by omega) cu2Y cun0 hover
                obtain rfl : q = Q2 + 1 := by omega
                go_wp2
                go_ret2
                exact ⟨rfl, rfl⟩
              · go_wp2
                go_round
                case rel => exact ⟨q - 1, r + v1, N.out, by omega, by omega, by omega, dv.next q r v1 u2 r5.out, rfl, rfl⟩
                case measure => simp [intOf]; omega
            · obtain rfl := dv.stop q r v1 v0 u2 un0 Y Q2 HY.out r5.out r1 E4.out (by omega) (by omega)
              go_wp2
              go_ret2
              exact ⟨rfl, rfl⟩
      · go_wp2
        go_round
        case rel => exact ⟨q - 1, r + v1, N.out, by omega, by omega, by omega, dv.next q r v1 u r5.out, rfl, rfl⟩
        case measure => simp [intOf]; omega
    · obtain ⟨m1, m2⟩ := dv.prod_bd q v0 (by omega) (by omega) cv0 cv0'
      by_cases ht : 4294967296 * r + un1 < q * v0
      · have N := Lib.hid (dv.less q r v1 v0 u un1 Y Q HY.out r5.out r1 D3.out (by omega) (by omega) cuY (Or.inr ht))
        have hq1 : 1 ≤ q := by have := N.out; omega
        by_cases hover : 4294967296 ≤ r + v1
        · have M := dv.stop' (q - 1) (r + v1) v1 v0 u un1 Y Q HY.out (dv.next q r v1 u r5.out) N.out D4.out (by omega) (by have := N.out; omega) cv0 (by omega) (by omega) cuY cun1 hover
          obtain rfl : q = Q + 1 := by omega
          go_wp2
          go_loop [18, 16] (fun qq rr => ∃ q r : Int, Q2 ≤ q ∧ q ≤ 4294967298 ∧ 0 ≤ r ∧ r < 4294967296 ∧ Hid (q * v1 + r = u2) ∧ qq = .int .u64 q ∧ rr = .int .u64 r) (fun qq _ => (intOf qq).toNat)
          case atStart => exact ⟨u2 / v1, u2 - u2 / v1 * v1, k1, k3, by omega, by omega, (by show _ = _; omega), rfl, rfl⟩
          case round =>
            obtain ⟨q, r, r1, r2, r3, r4, r5, rfl, rfl⟩ := hrel
            by_cases hbig : 4294967296 ≤ q
            · have N := Lib.hid (dv.less q r v1 v0 u2 un0 Y Q2 HY.out r5.out r1 E3.out (by omega) (by omega) cu2Y (Or.inl hbig))
              by_cases hover : 4294967296 ≤ r + v1
              · have M := dv.stop' (q - 1) (r + v1) v1 v0 u2 un0 Y Q2 HY.out (dv.next q r v1 u2 r5.out) N.out E4.out (by omega) (by have := N.out; omega) cv0 (by omega) (by omega) cu2Y cun0 hover
                obtain rfl : q = Q2 + 1 := by omega
                go_wp2
                go_ret2
                exact ⟨rfl, rfl⟩
              · go_wp2
                go_round
                case rel => exact ⟨q - 1, r + v1, N.out, by omega, by omega, by omega, dv.next q r v1 u2 r5.out, rfl, rfl⟩
                case measure => simp [intOf]; omega
            · obtain ⟨m1, m2⟩ := dv.prod_bd q v0 (by omega) (by omega) cv0 cv0'
              by_cases ht : 4294967296 * r + un0 < q * v0
              · have N := Lib.hid (dv.less q r v1 v0 u2 un0 Y Q2 HY.out r5.out r1 E3.out (by omega) (by omega) cu2Y (Or.inr ht))
                have hq1 : 1 ≤ q := by have := N.out; omega
                by_cases hover : 4294967296 ≤ r + v1
                · have M := dv.stop' (q - 1) (r + v1) v1 v0 u2 un0 Y Q2 HY.out (dv.next q r v1 u2 r5.out) N.out E4.out (by omega) (by have := N.out; omega) cv0 (by omega) (by omega) cu2Y cun0 hover
                  obtain rfl : q = Q2 + 1 := by omega
                  go_wp2
                  go_ret2
                  exact ⟨rfl, rfl⟩
                · go_wp2
                  go_round
                  case rel => exact ⟨q - 1, r + v1, N.out, by omega, by omega, by omega, dv.next q r v1 u2 r5.out, rfl, rfl⟩
                  case measure => simp [intOf]; omega
              · obtain rfl := dv.stop q r v1 v0 u2 un0 Y Q2 HY.out r5.out r1 E4.out (by omega) (by omega)
                go_wp2
                go_ret2
                exact ⟨rfl, rfl⟩
        · go_wp2
          go_round
          case rel => exact ⟨q - 1, r + v1, N.out, by omega, by omega, by omega, dv.next q r v1 u r5.out, rfl, rfl⟩
          case measure => simp [intOf]; omega
      · obtain rfl := dv.stop q r v1 v0 u un1 Y Q HY.out r5.out r1 D4.out (by omega) (by omega)
        go_wp2
        go_loop [18, 16] (fun qq rr => ∃ q r : Int, Q2 ≤ q ∧ q ≤ 4294967298 ∧ 0 ≤ r ∧ r < 4294967296 ∧ Hid (q * v1 + r = u2) ∧ qq = .int .u64 q ∧ rr = .int .u64 r) (fun qq _ => (intOf qq).toNat)
        case atStart => exact ⟨u2 / v1, u2 - u2 / v1 * v1, k1, k3, by omega, by omega, (by show _ = _; omega), rfl, rfl⟩
        case round =>
          obtain ⟨q, r, r1, r2, r3, r4, r5, rfl, rfl⟩ := hrel
          by_cases hbig : 4294967296 ≤ q
          · have N := Lib.hid (dv.less q r v1 v0 u2 un0 Y Q2 HY.out r5.out r1 E3.out (by omega) (by omega) cu2Y (Or.inl hbig))
            by_cases hover : 4294967296 ≤ r + v1
            · have M := dv.stop' (q - 1) (r + v1) v1 v0 u2 un0 Y Q2 HY.out (dv.next q r v1 u2 r5.out) N.out E4.out (by omega) (by have := N.out; omega) cv0 (by omega) (by omega) cu2Y cun0 hover
              obtain rfl : q = Q2 + 1 := by omega
              go_wp2
              go_ret2
              exact ⟨rfl, rfl⟩
            · go_wp2
              go_round
              case rel => exact ⟨q - 1, r + v1, N.out, by omega, by omega, by omega, dv.next q r v1 u2 r5.out, rfl, rfl⟩
              case measure => simp [intOf]; omega
          · obtain ⟨m1, m2⟩ := dv.prod_bd q v0 (by omega) (by omega) cv0 cv0'
            by_cases ht : 4294967296 * r + un0 < q * v0
            · have N := Lib.hid (dv.less q r v1 v0 u2 un0 Y Q2 HY.out r5.out r1 E3.out (by omega) (by omega) cu2Y (Or.inr ht))
              have hq1 : 1 ≤ q := by have := N.out; omega
              by_cases hover : 4294967296 ≤ r + v1
              · have M := dv.stop' (q - 1) (r + v1) v1 v0 u2 un0 Y Q2 HY.out (dv.next q r v1 u2 r5.out) N.out E4.out (by omega) (by have := N.out; omega) cv0 (by omega) (by omega) cu2Y cun0 hover
                obtain rfl : q = Q2 + 1 := by omega
                go_wp2
                go_ret2
                exact ⟨rfl, rfl⟩
              · go_wp2
                go_round
                case rel => exact ⟨q - 1, r + v1, N.out, by omega, by omega, by omega, dv.next q r v1 u2 r5.out, rfl, rfl⟩
                case measure => simp [intOf]; omega
            · obtain rfl := dv.stop q r v1 v0 u2 un0 Y Q2 HY.out r5.out r1 E4.out (by omega) (by omega)
              go_wp2
              go_ret2
              exact ⟨rfl, rfl⟩
end Go.Proofs.Ytdlpemmoobbgnaa
