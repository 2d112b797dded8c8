/- 'ModpGap': for every n, x, y the law returns true: the walk of the law, out of the contracts of what it calls. -/
import Derived.Test.YtdlpemmoobbgnaaWakes
namespace Go.Proofs.Ytdlpemmoobbgnaa
open Go.RowKit

theorem belowP_pos (n : Nat) (h : 3 ≤ n) : belowP n ≠ 0 := by
  intro e
  rcases belowP_spec n with ⟨_, b⟩ | ⟨_, b, _⟩
  · exact absurd (b 2 (by omega)) (by decide)
  · rw [e] at b; exact absurd b (by decide)

theorem primeB_prod (z x y : Int) (hx : 2 ≤ x) (hy : 2 ≤ y) (hz : z = x * y) : primeB z = false := by
  obtain ⟨a, rfl⟩ := Int.eq_ofNat_of_zero_le (show 0 ≤ x by omega)
  obtain ⟨b, rfl⟩ := Int.eq_ofNat_of_zero_le (show 0 ≤ y by omega)
  subst hz
  unfold primeB
  rw [show ((a : Int) * b).toNat = a * b by rw [← Int.natCast_mul, Int.toNat_natCast], isPB_mul a b (by omega) (by omega), Bool.and_false]

theorem below_facts (n b : Int) (h3 : 3 ≤ n) (hn : n ≤ 2147483648) (hb : b = (belowP n.toNat : Int)) :
    0 ≤ b ∧ b < n ∧ primeB b = true ∧ ∀ k, b < k → k < n → primeB k = false := by
  rcases belowP_spec n.toNat with ⟨a, _⟩ | ⟨a, c, d⟩
  · exact absurd a (belowP_pos n.toNat (by omega))
  · refine ⟨by omega, by omega, ?_, fun k h1 h2 => ?_⟩
    · unfold primeB
      rw [hb, Int.toNat_natCast, c, decide_eq_true (by omega)]; rfl
    · unfold primeB
      rw [d k.toNat (by omega) (by omega), Bool.and_false]

theorem zmul (x y : Int) (x0 : 0 ≤ x) (y0 : 0 ≤ y) (hx : x < 2147483648) (hy : y < 2147483648) : 0 ≤ (x + 2) * (y + 2) ∧ (x + 2) * (y + 2) ≤ 4611686022722355201 := by
  refine ⟨Int.mul_nonneg (by omega) (by omega), ?_⟩
  have := Int.mul_le_mul (show x + 2 ≤ 2147483649 by omega) (show y + 2 ≤ 2147483649 by omega) (by omega) (by omega)
  omega

set_option maxHeartbeats 1000000 in
theorem gap_A1 (n x y : Int) (n0 : 0 ≤ n) (x0 : 0 ≤ x) (x1 : x ≤ 4294967295) (y0 : 0 ≤ y) (y1 : y ≤ 4294967295) (hx : x < 2147483648) (hy : y < 2147483648) (hz : (x + 2) * (y + 2) < 2147483648) (hn : 2147483648 < n) (w : World) :
    Calls Try.prog 3 #[.int .u64 n, .int .u32 x, .int .u32 y] w fun e w' => e = .returned (.bool true) ∧ Below w.heap.size w w' := by
  obtain ⟨m0, m1⟩ := zmul x y x0 y0 hx hy
  have hpz := primeB_prod _ (x + 2) (y + 2) (by omega) (by omega) rfl
  have hez := primeE_lt hz
  have h1 : primeB n = false := by unfold primeB; rw [decide_eq_false (by omega), Bool.false_and]
  have h2 := primeE_ge (show 2147483648 ≤ n by omega)
  have h3 : belowU n = 0 := if_pos hn
  have h4 : belowE n = 5 := if_pos hn
  go_enter Try.func3, Try.ntmps3
  go_wp2_with (first
      | (go_at_call 11; refine (wakes_any _).mono ?_; rintro e w1 ⟨rfl, hb1⟩)
      | (go_at_call 12; refine (Prime_any _ (by omega) _).mono ?_; rintro e w2 ⟨rfl, rfl⟩)
      | (go_at_call 13; refine (Below_any _ (by omega) _).mono ?_; rintro e w2 ⟨rfl, rfl⟩)
      | (go_at_call 14; refine (prime_any _ (by omega) _).mono ?_; rintro e w2 ⟨rfl, rfl⟩))
  go_ret
  exact ⟨rfl, hb1⟩

set_option maxHeartbeats 1000000 in
theorem gap_A2 (n x y : Int) (n0 : 0 ≤ n) (x0 : 0 ≤ x) (x1 : x ≤ 4294967295) (y0 : 0 ≤ y) (y1 : y ≤ 4294967295) (hx : x < 2147483648) (hy : y < 2147483648) (hz : (x + 2) * (y + 2) < 2147483648) (hn : n < 3) (w : World) :
    Calls Try.prog 3 #[.int .u64 n, .int .u32 x, .int .u32 y] w fun e w' => e = .returned (.bool true) ∧ Below w.heap.size w w' := by
  obtain ⟨m0, m1⟩ := zmul x y x0 y0 hx hy
  have hpz := primeB_prod _ (x + 2) (y + 2) (by omega) (by omega) rfl
  have hez := primeE_lt hz
  have h2 := primeE_lt (show n < 2147483648 by omega)
  have h3 : belowU n = 0 := by unfold belowU; rw [if_neg (by omega), belowP_small n (by omega)]; rfl
  have h4 : belowE n = 6 := by unfold belowE; rw [if_neg (by omega), if_pos (belowP_small n (by omega))]
  go_enter Try.func3, Try.ntmps3
  go_wp2_with (first
      | (go_at_call 11; refine (wakes_any _).mono ?_; rintro e w1 ⟨rfl, hb1⟩)
      | (go_at_call 12; refine (Prime_any _ (by omega) _).mono ?_; rintro e w2 ⟨rfl, rfl⟩)
      | (go_at_call 13; refine (Below_any _ (by omega) _).mono ?_; rintro e w2 ⟨rfl, rfl⟩)
      | (go_at_call 14; refine (prime_any _ (by omega) _).mono ?_; rintro e w2 ⟨rfl, rfl⟩))
  go_ret
  exact ⟨rfl, hb1⟩

set_option maxHeartbeats 1000000 in
theorem gap_A3 (n x y : Int) (n0 : 0 ≤ n) (x0 : 0 ≤ x) (x1 : x ≤ 4294967295) (y0 : 0 ≤ y) (y1 : y ≤ 4294967295) (hx : x < 2147483648) (hy : y < 2147483648) (hz : (x + 2) * (y + 2) < 2147483648) (hn : n = 2147483648) (w : World) :
    Calls Try.prog 3 #[.int .u64 n, .int .u32 x, .int .u32 y] w fun e w' => e = .returned (.bool true) ∧ Below w.heap.size w w' := by
  obtain ⟨m0, m1⟩ := zmul x y x0 y0 hx hy
  have hpz := primeB_prod _ (x + 2) (y + 2) (by omega) (by omega) rfl
  have hez := primeE_lt hz
  have h1 : primeB n = false := by unfold primeB; rw [decide_eq_false (by omega), Bool.false_and]
  have h2 := primeE_ge (show 2147483648 ≤ n by omega)
  have hn' : n ≤ 2147483648 := by omega
  have hn3 : 3 ≤ n := by omega
  have hn4 : 2147483648 ≤ n := by omega
  clear hn
  obtain ⟨b, hb⟩ : ∃ b : Int, b = (belowP n.toNat : Int) := ⟨_, rfl⟩
  have h3 : belowU n = b := by unfold belowU; rw [if_neg (by omega), hb]
  have h4 : belowE n = 0 := by unfold belowE; rw [if_neg (by omega), if_neg (belowP_pos n.toNat (by omega))]
  obtain ⟨q0, q1, q2, q3⟩ := below_facts n b hn3 hn' hb
  have HB := Lib.hid q3
  clear hb q3
  go_enter Try.func3, Try.ntmps3
  go_wp2_with (first
      | (go_at_call 11; refine (wakes_any _).mono ?_; rintro e w1 ⟨rfl, hb1⟩)
      | (go_at_call 12; refine (Prime_any _ (by omega) _).mono ?_; rintro e w2 ⟨rfl, rfl⟩)
      | (go_at_call 13; refine (Below_any _ (by omega) _).mono ?_; rintro e w2 ⟨rfl, rfl⟩)
      | (go_at_call 14; refine (prime_any _ (by omega) _).mono ?_; rintro e w2 ⟨rfl, rfl⟩))
  go_loop [14] (fun kv => ∃ k : Int, b < k ∧ k ≤ n ∧ kv = .int .u64 k) (fun kv => (n - intOf kv).toNat)
  case atStart => exact ⟨b + 1, by omega, by omega, rfl⟩
  case round =>
    obtain ⟨k, k1, k2, rfl⟩ := hrel
    by_cases hk : k < n
    · have g1 := HB.out k k1 hk
      have g2 := primeE_lt (show k < 2147483648 by omega)
      go_wp2_with (first
          | (go_at_call 11; refine (wakes_any _).mono ?_; rintro e w1 ⟨rfl, hb1⟩)
          | (go_at_call 12; refine (Prime_any _ (by omega) _).mono ?_; rintro e w2 ⟨rfl, rfl⟩)
          | (go_at_call 13; refine (Below_any _ (by omega) _).mono ?_; rintro e w2 ⟨rfl, rfl⟩)
          | (go_at_call 14; refine (prime_any _ (by omega) _).mono ?_; rintro e w2 ⟨rfl, rfl⟩))
      go_round
      case rel => exact ⟨k + 1, by omega, by omega, rfl⟩
      case measure => simp [intOf]; omega
    · go_wp2_with fail
      go_ret
      exact ⟨rfl, hb1⟩

set_option maxHeartbeats 1000000 in
theorem gap_A4 (n x y : Int) (n0 : 0 ≤ n) (x0 : 0 ≤ x) (x1 : x ≤ 4294967295) (y0 : 0 ≤ y) (y1 : y ≤ 4294967295) (hx : x < 2147483648) (hy : y < 2147483648) (hz : (x + 2) * (y + 2) < 2147483648) (hn3 : 3 ≤ n) (hn : n < 2147483648) (w : World) :
    Calls Try.prog 3 #[.int .u64 n, .int .u32 x, .int .u32 y] w fun e w' => e = .returned (.bool true) ∧ Below w.heap.size w w' := by
  obtain ⟨m0, m1⟩ := zmul x y x0 y0 hx hy
  have hpz := primeB_prod _ (x + 2) (y + 2) (by omega) (by omega) rfl
  have hez := primeE_lt hz
  have h2 := primeE_lt hn
  have hn' : n ≤ 2147483648 := by omega
  obtain ⟨b, hb⟩ : ∃ b : Int, b = (belowP n.toNat : Int) := ⟨_, rfl⟩
  have h3 : belowU n = b := by unfold belowU; rw [if_neg (by omega), hb]
  have h4 : belowE n = 0 := by unfold belowE; rw [if_neg (by omega), if_neg (belowP_pos n.toNat (by omega))]
  obtain ⟨q0, q1, q2, q3⟩ := below_facts n b hn3 hn' hb
  have HB := Lib.hid q3
  clear hb q3
  go_enter Try.func3, Try.ntmps3
  go_wp2_with (first
      | (go_at_call 11; refine (wakes_any _).mono ?_; rintro e w1 ⟨rfl, hb1⟩)
      | (go_at_call 12; refine (Prime_any _ (by omega) _).mono ?_; rintro e w2 ⟨rfl, rfl⟩)
      | (go_at_call 13; refine (Below_any _ (by omega) _).mono ?_; rintro e w2 ⟨rfl, rfl⟩)
      | (go_at_call 14; refine (prime_any _ (by omega) _).mono ?_; rintro e w2 ⟨rfl, rfl⟩))
  go_loop [14] (fun kv => ∃ k : Int, b < k ∧ k ≤ n ∧ kv = .int .u64 k) (fun kv => (n - intOf kv).toNat)
  case atStart => exact ⟨b + 1, by omega, by omega, rfl⟩
  case round =>
    obtain ⟨k, k1, k2, rfl⟩ := hrel
    by_cases hk : k < n
    · have g1 := HB.out k k1 hk
      have g2 := primeE_lt (show k < 2147483648 by omega)
      go_wp2_with (first
          | (go_at_call 11; refine (wakes_any _).mono ?_; rintro e w1 ⟨rfl, hb1⟩)
          | (go_at_call 12; refine (Prime_any _ (by omega) _).mono ?_; rintro e w2 ⟨rfl, rfl⟩)
          | (go_at_call 13; refine (Below_any _ (by omega) _).mono ?_; rintro e w2 ⟨rfl, rfl⟩)
          | (go_at_call 14; refine (prime_any _ (by omega) _).mono ?_; rintro e w2 ⟨rfl, rfl⟩))
      go_round
      case rel => exact ⟨k + 1, by omega, by omega, rfl⟩
      case measure => simp [intOf]; omega
    · go_wp2_with fail
      go_ret
      exact ⟨rfl, hb1⟩

set_option maxHeartbeats 1000000 in
theorem gap_B1 (n x y : Int) (n0 : 0 ≤ n) (x0 : 0 ≤ x) (x1 : x ≤ 4294967295) (y0 : 0 ≤ y) (y1 : y ≤ 4294967295) (hx : x < 2147483648) (hy : y < 2147483648) (hz : 2147483648 ≤ (x + 2) * (y + 2)) (hn : 2147483648 < n) (w : World) :
    Calls Try.prog 3 #[.int .u64 n, .int .u32 x, .int .u32 y] w fun e w' => e = .returned (.bool true) ∧ Below w.heap.size w w' := by
  obtain ⟨m0, m1⟩ := zmul x y x0 y0 hx hy
  have h1 : primeB n = false := by unfold primeB; rw [decide_eq_false (by omega), Bool.false_and]
  have h2 := primeE_ge (show 2147483648 ≤ n by omega)
  have h3 : belowU n = 0 := if_pos hn
  have h4 : belowE n = 5 := if_pos hn
  go_enter Try.func3, Try.ntmps3
  go_wp2_with (first
      | (go_at_call 11; refine (wakes_any _).mono ?_; rintro e w1 ⟨rfl, hb1⟩)
      | (go_at_call 12; refine (Prime_any _ (by omega) _).mono ?_; rintro e w2 ⟨rfl, rfl⟩)
      | (go_at_call 13; refine (Below_any _ (by omega) _).mono ?_; rintro e w2 ⟨rfl, rfl⟩)
      | (go_at_call 14; refine (prime_any _ (by omega) _).mono ?_; rintro e w2 ⟨rfl, rfl⟩))
  go_ret
  exact ⟨rfl, hb1⟩

set_option maxHeartbeats 1000000 in
theorem gap_B2 (n x y : Int) (n0 : 0 ≤ n) (x0 : 0 ≤ x) (x1 : x ≤ 4294967295) (y0 : 0 ≤ y) (y1 : y ≤ 4294967295) (hx : x < 2147483648) (hy : y < 2147483648) (hz : 2147483648 ≤ (x + 2) * (y + 2)) (hn : n < 3) (w : World) :
    Calls Try.prog 3 #[.int .u64 n, .int .u32 x, .int .u32 y] w fun e w' => e = .returned (.bool true) ∧ Below w.heap.size w w' := by
  obtain ⟨m0, m1⟩ := zmul x y x0 y0 hx hy
  have h2 := primeE_lt (show n < 2147483648 by omega)
  have h3 : belowU n = 0 := by unfold belowU; rw [if_neg (by omega), belowP_small n (by omega)]; rfl
  have h4 : belowE n = 6 := by unfold belowE; rw [if_neg (by omega), if_pos (belowP_small n (by omega))]
  go_enter Try.func3, Try.ntmps3
  go_wp2_with (first
      | (go_at_call 11; refine (wakes_any _).mono ?_; rintro e w1 ⟨rfl, hb1⟩)
      | (go_at_call 12; refine (Prime_any _ (by omega) _).mono ?_; rintro e w2 ⟨rfl, rfl⟩)
      | (go_at_call 13; refine (Below_any _ (by omega) _).mono ?_; rintro e w2 ⟨rfl, rfl⟩)
      | (go_at_call 14; refine (prime_any _ (by omega) _).mono ?_; rintro e w2 ⟨rfl, rfl⟩))
  go_ret
  exact ⟨rfl, hb1⟩

set_option maxHeartbeats 1000000 in
theorem gap_B3 (n x y : Int) (n0 : 0 ≤ n) (x0 : 0 ≤ x) (x1 : x ≤ 4294967295) (y0 : 0 ≤ y) (y1 : y ≤ 4294967295) (hx : x < 2147483648) (hy : y < 2147483648) (hz : 2147483648 ≤ (x + 2) * (y + 2)) (hn : n = 2147483648) (w : World) :
    Calls Try.prog 3 #[.int .u64 n, .int .u32 x, .int .u32 y] w fun e w' => e = .returned (.bool true) ∧ Below w.heap.size w w' := by
  obtain ⟨m0, m1⟩ := zmul x y x0 y0 hx hy
  have h1 : primeB n = false := by unfold primeB; rw [decide_eq_false (by omega), Bool.false_and]
  have h2 := primeE_ge (show 2147483648 ≤ n by omega)
  have hn' : n ≤ 2147483648 := by omega
  have hn3 : 3 ≤ n := by omega
  have hn4 : 2147483648 ≤ n := by omega
  clear hn
  obtain ⟨b, hb⟩ : ∃ b : Int, b = (belowP n.toNat : Int) := ⟨_, rfl⟩
  have h3 : belowU n = b := by unfold belowU; rw [if_neg (by omega), hb]
  have h4 : belowE n = 0 := by unfold belowE; rw [if_neg (by omega), if_neg (belowP_pos n.toNat (by omega))]
  obtain ⟨q0, q1, q2, q3⟩ := below_facts n b hn3 hn' hb
  have HB := Lib.hid q3
  clear hb q3
  go_enter Try.func3, Try.ntmps3
  go_wp2_with (first
      | (go_at_call 11; refine (wakes_any _).mono ?_; rintro e w1 ⟨rfl, hb1⟩)
      | (go_at_call 12; refine (Prime_any _ (by omega) _).mono ?_; rintro e w2 ⟨rfl, rfl⟩)
      | (go_at_call 13; refine (Below_any _ (by omega) _).mono ?_; rintro e w2 ⟨rfl, rfl⟩)
      | (go_at_call 14; refine (prime_any _ (by omega) _).mono ?_; rintro e w2 ⟨rfl, rfl⟩))
  go_loop [14] (fun kv => ∃ k : Int, b < k ∧ k ≤ n ∧ kv = .int .u64 k) (fun kv => (n - intOf kv).toNat)
  case atStart => exact ⟨b + 1, by omega, by omega, rfl⟩
  case round =>
    obtain ⟨k, k1, k2, rfl⟩ := hrel
    by_cases hk : k < n
    · have g1 := HB.out k k1 hk
      have g2 := primeE_lt (show k < 2147483648 by omega)
      go_wp2_with (first
          | (go_at_call 11; refine (wakes_any _).mono ?_; rintro e w1 ⟨rfl, hb1⟩)
          | (go_at_call 12; refine (Prime_any _ (by omega) _).mono ?_; rintro e w2 ⟨rfl, rfl⟩)
          | (go_at_call 13; refine (Below_any _ (by omega) _).mono ?_; rintro e w2 ⟨rfl, rfl⟩)
          | (go_at_call 14; refine (prime_any _ (by omega) _).mono ?_; rintro e w2 ⟨rfl, rfl⟩))
      go_round
      case rel => exact ⟨k + 1, by omega, by omega, rfl⟩
      case measure => simp [intOf]; omega
    · go_wp2_with fail
      go_ret
      exact ⟨rfl, hb1⟩

set_option maxHeartbeats 1000000 in
theorem gap_B4 (n x y : Int) (n0 : 0 ≤ n) (x0 : 0 ≤ x) (x1 : x ≤ 4294967295) (y0 : 0 ≤ y) (y1 : y ≤ 4294967295) (hx : x < 2147483648) (hy : y < 2147483648) (hz : 2147483648 ≤ (x + 2) * (y + 2)) (hn3 : 3 ≤ n) (hn : n < 2147483648) (w : World) :
    Calls Try.prog 3 #[.int .u64 n, .int .u32 x, .int .u32 y] w fun e w' => e = .returned (.bool true) ∧ Below w.heap.size w w' := by
  obtain ⟨m0, m1⟩ := zmul x y x0 y0 hx hy
  have h2 := primeE_lt hn
  have hn' : n ≤ 2147483648 := by omega
  obtain ⟨b, hb⟩ : ∃ b : Int, b = (belowP n.toNat : Int) := ⟨_, rfl⟩
  have h3 : belowU n = b := by unfold belowU; rw [if_neg (by omega), hb]
  have h4 : belowE n = 0 := by unfold belowE; rw [if_neg (by omega), if_neg (belowP_pos n.toNat (by omega))]
  obtain ⟨q0, q1, q2, q3⟩ := below_facts n b hn3 hn' hb
  have HB := Lib.hid q3
  clear hb q3
  go_enter Try.func3, Try.ntmps3
  go_wp2_with (first
      | (go_at_call 11; refine (wakes_any _).mono ?_; rintro e w1 ⟨rfl, hb1⟩)
      | (go_at_call 12; refine (Prime_any _ (by omega) _).mono ?_; rintro e w2 ⟨rfl, rfl⟩)
      | (go_at_call 13; refine (Below_any _ (by omega) _).mono ?_; rintro e w2 ⟨rfl, rfl⟩)
      | (go_at_call 14; refine (prime_any _ (by omega) _).mono ?_; rintro e w2 ⟨rfl, rfl⟩))
  go_loop [14] (fun kv => ∃ k : Int, b < k ∧ k ≤ n ∧ kv = .int .u64 k) (fun kv => (n - intOf kv).toNat)
  case atStart => exact ⟨b + 1, by omega, by omega, rfl⟩
  case round =>
    obtain ⟨k, k1, k2, rfl⟩ := hrel
    by_cases hk : k < n
    · have g1 := HB.out k k1 hk
      have g2 := primeE_lt (show k < 2147483648 by omega)
      go_wp2_with (first
          | (go_at_call 11; refine (wakes_any _).mono ?_; rintro e w1 ⟨rfl, hb1⟩)
          | (go_at_call 12; refine (Prime_any _ (by omega) _).mono ?_; rintro e w2 ⟨rfl, rfl⟩)
          | (go_at_call 13; refine (Below_any _ (by omega) _).mono ?_; rintro e w2 ⟨rfl, rfl⟩)
          | (go_at_call 14; refine (prime_any _ (by omega) _).mono ?_; rintro e w2 ⟨rfl, rfl⟩))
      go_round
      case rel => exact ⟨k + 1, by omega, by omega, rfl⟩
      case measure => simp [intOf]; omega
    · go_wp2_with fail
      go_ret
      exact ⟨rfl, hb1⟩

set_option maxHeartbeats 1000000 in
theorem gap_C1 (n x y : Int) (n0 : 0 ≤ n) (x0 : 0 ≤ x) (x1 : x ≤ 4294967295) (y0 : 0 ≤ y) (y1 : y ≤ 4294967295) (hx : 2147483648 ≤ x) (hn : 2147483648 < n) (w : World) :
    Calls Try.prog 3 #[.int .u64 n, .int .u32 x, .int .u32 y] w fun e w' => e = .returned (.bool true) ∧ Below w.heap.size w w' := by
  have h1 : primeB n = false := by unfold primeB; rw [decide_eq_false (by omega), Bool.false_and]
  have h2 := primeE_ge (show 2147483648 ≤ n by omega)
  have h3 : belowU n = 0 := if_pos hn
  have h4 : belowE n = 5 := if_pos hn
  go_enter Try.func3, Try.ntmps3
  go_wp2_with (first
      | (go_at_call 11; refine (wakes_any _).mono ?_; rintro e w1 ⟨rfl, hb1⟩)
      | (go_at_call 12; refine (Prime_any _ (by omega) _).mono ?_; rintro e w2 ⟨rfl, rfl⟩)
      | (go_at_call 13; refine (Below_any _ (by omega) _).mono ?_; rintro e w2 ⟨rfl, rfl⟩)
      | (go_at_call 14; refine (prime_any _ (by omega) _).mono ?_; rintro e w2 ⟨rfl, rfl⟩))
  go_ret
  exact ⟨rfl, hb1⟩

set_option maxHeartbeats 1000000 in
theorem gap_C2 (n x y : Int) (n0 : 0 ≤ n) (x0 : 0 ≤ x) (x1 : x ≤ 4294967295) (y0 : 0 ≤ y) (y1 : y ≤ 4294967295) (hx : 2147483648 ≤ x) (hn : n < 3) (w : World) :
    Calls Try.prog 3 #[.int .u64 n, .int .u32 x, .int .u32 y] w fun e w' => e = .returned (.bool true) ∧ Below w.heap.size w w' := by
  have h2 := primeE_lt (show n < 2147483648 by omega)
  have h3 : belowU n = 0 := by unfold belowU; rw [if_neg (by omega), belowP_small n (by omega)]; rfl
  have h4 : belowE n = 6 := by unfold belowE; rw [if_neg (by omega), if_pos (belowP_small n (by omega))]
  go_enter Try.func3, Try.ntmps3
  go_wp2_with (first
      | (go_at_call 11; refine (wakes_any _).mono ?_; rintro e w1 ⟨rfl, hb1⟩)
      | (go_at_call 12; refine (Prime_any _ (by omega) _).mono ?_; rintro e w2 ⟨rfl, rfl⟩)
      | (go_at_call 13; refine (Below_any _ (by omega) _).mono ?_; rintro e w2 ⟨rfl, rfl⟩)
      | (go_at_call 14; refine (prime_any _ (by omega) _).mono ?_; rintro e w2 ⟨rfl, rfl⟩))
  go_ret
  exact ⟨rfl, hb1⟩

set_option maxHeartbeats 1000000 in
theorem gap_C3 (n x y : Int) (n0 : 0 ≤ n) (x0 : 0 ≤ x) (x1 : x ≤ 4294967295) (y0 : 0 ≤ y) (y1 : y ≤ 4294967295) (hx : 2147483648 ≤ x) (hn : n = 2147483648) (w : World) :
    Calls Try.prog 3 #[.int .u64 n, .int .u32 x, .int .u32 y] w fun e w' => e = .returned (.bool true) ∧ Below w.heap.size w w' := by
  have h1 : primeB n = false := by unfold primeB; rw [decide_eq_false (by omega), Bool.false_and]
  have h2 := primeE_ge (show 2147483648 ≤ n by omega)
  have hn' : n ≤ 2147483648 := by omega
  have hn3 : 3 ≤ n := by omega
  have hn4 : 2147483648 ≤ n := by omega
  clear hn
  obtain ⟨b, hb⟩ : ∃ b : Int, b = (belowP n.toNat : Int) := ⟨_, rfl⟩
  have h3 : belowU n = b := by unfold belowU; rw [if_neg (by omega), hb]
  have h4 : belowE n = 0 := by unfold belowE; rw [if_neg (by omega), if_neg (belowP_pos n.toNat (by omega))]
  obtain ⟨q0, q1, q2, q3⟩ := below_facts n b hn3 hn' hb
  have HB := Lib.hid q3
  clear hb q3
  go_enter Try.func3, Try.ntmps3
  go_wp2_with (first
      | (go_at_call 11; refine (wakes_any _).mono ?_; rintro e w1 ⟨rfl, hb1⟩)
      | (go_at_call 12; refine (Prime_any _ (by omega) _).mono ?_; rintro e w2 ⟨rfl, rfl⟩)
      | (go_at_call 13; refine (Below_any _ (by omega) _).mono ?_; rintro e w2 ⟨rfl, rfl⟩)
      | (go_at_call 14; refine (prime_any _ (by omega) _).mono ?_; rintro e w2 ⟨rfl, rfl⟩))
  go_loop [14] (fun kv => ∃ k : Int, b < k ∧ k ≤ n ∧ kv = .int .u64 k) (fun kv => (n - intOf kv).toNat)
  case atStart => exact ⟨b + 1, by omega, by omega, rfl⟩
  case round =>
    obtain ⟨k, k1, k2, rfl⟩ := hrel
    by_cases hk : k < n
    · have g1 := HB.out k k1 hk
      have g2 := primeE_lt (show k < 2147483648 by omega)
      go_wp2_with (first
          | (go_at_call 11; refine (wakes_any _).mono ?_; rintro e w1 ⟨rfl, hb1⟩)
          | (go_at_call 12; refine (Prime_any _ (by omega) _).mono ?_; rintro e w2 ⟨rfl, rfl⟩)
          | (go_at_call 13; refine (Below_any _ (by omega) _).mono ?_; rintro e w2 ⟨rfl, rfl⟩)
          | (go_at_call 14; refine (prime_any _ (by omega) _).mono ?_; rintro e w2 ⟨rfl, rfl⟩))
      go_round
      case rel => exact ⟨k + 1, by omega, by omega, rfl⟩
      case measure => simp [intOf]; omega
    · go_wp2_with fail
      go_ret
      exact ⟨rfl, hb1⟩

set_option maxHeartbeats 1000000 in
theorem gap_C4 (n x y : Int) (n0 : 0 ≤ n) (x0 : 0 ≤ x) (x1 : x ≤ 4294967295) (y0 : 0 ≤ y) (y1 : y ≤ 4294967295) (hx : 2147483648 ≤ x) (hn3 : 3 ≤ n) (hn : n < 2147483648) (w : World) :
    Calls Try.prog 3 #[.int .u64 n, .int .u32 x, .int .u32 y] w fun e w' => e = .returned (.bool true) ∧ Below w.heap.size w w' := by
  have h2 := primeE_lt hn
  have hn' : n ≤ 2147483648 := by omega
  obtain ⟨b, hb⟩ : ∃ b : Int, b = (belowP n.toNat : Int) := ⟨_, rfl⟩
  have h3 : belowU n = b := by unfold belowU; rw [if_neg (by omega), hb]
  have h4 : belowE n = 0 := by unfold belowE; rw [if_neg (by omega), if_neg (belowP_pos n.toNat (by omega))]
  obtain ⟨q0, q1, q2, q3⟩ := below_facts n b hn3 hn' hb
  have HB := Lib.hid q3
  clear hb q3
  go_enter Try.func3, Try.ntmps3
  go_wp2_with (first
      | (go_at_call 11; refine (wakes_any _).mono ?_; rintro e w1 ⟨rfl, hb1⟩)
      | (go_at_call 12; refine (Prime_any _ (by omega) _).mono ?_; rintro e w2 ⟨rfl, rfl⟩)
      | (go_at_call 13; refine (Below_any _ (by omega) _).mono ?_; rintro e w2 ⟨rfl, rfl⟩)
      | (go_at_call 14; refine (prime_any _ (by omega) _).mono ?_; rintro e w2 ⟨rfl, rfl⟩))
  go_loop [14] (fun kv => ∃ k : Int, b < k ∧ k ≤ n ∧ kv = .int .u64 k) (fun kv => (n - intOf kv).toNat)
  case atStart => exact ⟨b + 1, by omega, by omega, rfl⟩
  case round =>
    obtain ⟨k, k1, k2, rfl⟩ := hrel
    by_cases hk : k < n
    · have g1 := HB.out k k1 hk
      have g2 := primeE_lt (show k < 2147483648 by omega)
      go_wp2_with (first
          | (go_at_call 11; refine (wakes_any _).mono ?_; rintro e w1 ⟨rfl, hb1⟩)
          | (go_at_call 12; refine (Prime_any _ (by omega) _).mono ?_; rintro e w2 ⟨rfl, rfl⟩)
          | (go_at_call 13; refine (Below_any _ (by omega) _).mono ?_; rintro e w2 ⟨rfl, rfl⟩)
          | (go_at_call 14; refine (prime_any _ (by omega) _).mono ?_; rintro e w2 ⟨rfl, rfl⟩))
      go_round
      case rel => exact ⟨k + 1, by omega, by omega, rfl⟩
      case measure => simp [intOf]; omega
    · go_wp2_with fail
      go_ret
      exact ⟨rfl, hb1⟩

set_option maxHeartbeats 1000000 in
theorem gap_D1 (n x y : Int) (n0 : 0 ≤ n) (x0 : 0 ≤ x) (x1 : x ≤ 4294967295) (y0 : 0 ≤ y) (y1 : y ≤ 4294967295) (hx : x < 2147483648) (hy : 2147483648 ≤ y) (hn : 2147483648 < n) (w : World) :
    Calls Try.prog 3 #[.int .u64 n, .int .u32 x, .int .u32 y] w fun e w' => e = .returned (.bool true) ∧ Below w.heap.size w w' := by
  have h1 : primeB n = false := by unfold primeB; rw [decide_eq_false (by omega), Bool.false_and]
  have h2 := primeE_ge (show 2147483648 ≤ n by omega)
  have h3 : belowU n = 0 := if_pos hn
  have h4 : belowE n = 5 := if_pos hn
  go_enter Try.func3, Try.ntmps3
  go_wp2_with (first
      | (go_at_call 11; refine (wakes_any _).mono ?_; rintro e w1 ⟨rfl, hb1⟩)
      | (go_at_call 12; refine (Prime_any _ (by omega) _).mono ?_; rintro e w2 ⟨rfl, rfl⟩)
      | (go_at_call 13; refine (Below_any _ (by omega) _).mono ?_; rintro e w2 ⟨rfl, rfl⟩)
      | (go_at_call 14; refine (prime_any _ (by omega) _).mono ?_; rintro e w2 ⟨rfl, rfl⟩))
  go_ret
  exact ⟨rfl, hb1⟩

set_option maxHeartbeats 1000000 in
theorem gap_D2 (n x y : Int) (n0 : 0 ≤ n) (x0 : 0 ≤ x) (x1 : x ≤ 4294967295) (y0 : 0 ≤ y) (y1 : y ≤ 4294967295) (hx : x < 2147483648) (hy : 2147483648 ≤ y) (hn : n < 3) (w : World) :
    Calls Try.prog 3 #[.int .u64 n, .int .u32 x, .int .u32 y] w fun e w' => e = .returned (.bool true) ∧ Below w.heap.size w w' := by
  have h2 := primeE_lt (show n < 2147483648 by omega)
  have h3 : belowU n = 0 := by unfold belowU; rw [if_neg (by omega), belowP_small n (by omega)]; rfl
  have h4 : belowE n = 6 := by unfold belowE; rw [if_neg (by omega), if_pos (belowP_small n (by omega))]
  go_enter Try.func3, Try.ntmps3
  go_wp2_with (first
      | (go_at_call 11; refine (wakes_any _).mono ?_; rintro e w1 ⟨rfl, hb1⟩)
      | (go_at_call 12; refine (Prime_any _ (by omega) _).mono ?_; rintro e w2 ⟨rfl, rfl⟩)
      | (go_at_call 13; refine (Below_any _ (by omega) _).mono ?_; rintro e w2 ⟨rfl, rfl⟩)
      | (go_at_call 14; refine (prime_any _ (by omega) _).mono ?_; rintro e w2 ⟨rfl, rfl⟩))
  go_ret
  exact ⟨rfl, hb1⟩

set_option maxHeartbeats 1000000 in
theorem gap_D3 (n x y : Int) (n0 : 0 ≤ n) (x0 : 0 ≤ x) (x1 : x ≤ 4294967295) (y0 : 0 ≤ y) (y1 : y ≤ 4294967295) (hx : x < 2147483648) (hy : 2147483648 ≤ y) (hn : n = 2147483648) (w : World) :
    Calls Try.prog 3 #[.int .u64 n, .int .u32 x, .int .u32 y] w fun e w' => e = .returned (.bool true) ∧ Below w.heap.size w w' := by
  have h1 : primeB n = false := by unfold primeB; rw [decide_eq_false (by omega), Bool.false_and]
  have h2 := primeE_ge (show 2147483648 ≤ n by omega)
  have hn' : n ≤ 2147483648 := by omega
  have hn3 : 3 ≤ n := by omega
  have hn4 : 2147483648 ≤ n := by omega
  clear hn
  obtain ⟨b, hb⟩ : ∃ b : Int, b = (belowP n.toNat : Int) := ⟨_, rfl⟩
  have h3 : belowU n = b := by unfold belowU; rw [if_neg (by omega), hb]
  have h4 : belowE n = 0 := by unfold belowE; rw [if_neg (by omega), if_neg (belowP_pos n.toNat (by omega))]
  obtain ⟨q0, q1, q2, q3⟩ := below_facts n b hn3 hn' hb
  have HB := Lib.hid q3
  clear hb q3
  go_enter Try.func3, Try.ntmps3
  go_wp2_with (first
      | (go_at_call 11; refine (wakes_any _).mono ?_; rintro e w1 ⟨rfl, hb1⟩)
      | (go_at_call 12; refine (Prime_any _ (by omega) _).mono ?_; rintro e w2 ⟨rfl, rfl⟩)
      | (go_at_call 13; refine (Below_any _ (by omega) _).mono ?_; rintro e w2 ⟨rfl, rfl⟩)
      | (go_at_call 14; refine (prime_any _ (by omega) _).mono ?_; rintro e w2 ⟨rfl, rfl⟩))
  go_loop [14] (fun kv => ∃ k : Int, b < k ∧ k ≤ n ∧ kv = .int .u64 k) (fun kv => (n - intOf kv).toNat)
  case atStart => exact ⟨b + 1, by omega, by omega, rfl⟩
  case round =>
    obtain ⟨k, k1, k2, rfl⟩ := hrel
    by_cases hk : k < n
    · have g1 := HB.out k k1 hk
      have g2 := primeE_lt (show k < 2147483648 by omega)
      go_wp2_with (first
          | (go_at_call 11; refine (wakes_any _).mono ?_; rintro e w1 ⟨rfl, hb1⟩)
          | (go_at_call 12; refine (Prime_any _ (by omega) _).mono ?_; rintro e w2 ⟨rfl, rfl⟩)
          | (go_at_call 13; refine (Below_any _ (by omega) _).mono ?_; rintro e w2 ⟨rfl, rfl⟩)
          | (go_at_call 14; refine (prime_any _ (by omega) _).mono ?_; rintro e w2 ⟨rfl, rfl⟩))
      go_round
      case rel => exact ⟨k + 1, by omega, by omega, rfl⟩
      case measure => simp [intOf]; omega
    · go_wp2_with fail
      go_ret
      exact ⟨rfl, hb1⟩

set_option maxHeartbeats 1000000 in
theorem gap_D4 (n x y : Int) (n0 : 0 ≤ n) (x0 : 0 ≤ x) (x1 : x ≤ 4294967295) (y0 : 0 ≤ y) (y1 : y ≤ 4294967295) (hx : x < 2147483648) (hy : 2147483648 ≤ y) (hn3 : 3 ≤ n) (hn : n < 2147483648) (w : World) :
    Calls Try.prog 3 #[.int .u64 n, .int .u32 x, .int .u32 y] w fun e w' => e = .returned (.bool true) ∧ Below w.heap.size w w' := by
  have h2 := primeE_lt hn
  have hn' : n ≤ 2147483648 := by omega
  obtain ⟨b, hb⟩ : ∃ b : Int, b = (belowP n.toNat : Int) := ⟨_, rfl⟩
  have h3 : belowU n = b := by unfold belowU; rw [if_neg (by omega), hb]
  have h4 : belowE n = 0 := by unfold belowE; rw [if_neg (by omega), if_neg (belowP_pos n.toNat (by omega))]
  obtain ⟨q0, q1, q2, q3⟩ := below_facts n b hn3 hn' hb
  have HB := Lib.hid q3
  clear hb q3
  go_enter Try.func3, Try.ntmps3
  go_wp2_with (first
      | (go_at_call 11; refine (wakes_any _).mono ?_; rintro e w1 ⟨rfl, hb1⟩)
      | (go_at_call 12; refine (Prime_any _ (by omega) _).mono ?_; rintro e w2 ⟨rfl, rfl⟩)
      | (go_at_call 13; refine (Below_any _ (by omega) _).mono ?_; rintro e w2 ⟨rfl, rfl⟩)
      | (go_at_call 14; refine (prime_any _ (by omega) _).mono ?_; rintro e w2 ⟨rfl, rfl⟩))
  go_loop [14] (fun kv => ∃ k : Int, b < k ∧ k ≤ n ∧ kv = .int .u64 k) (fun kv => (n - intOf kv).toNat)
  case atStart => exact ⟨b + 1, by omega, by omega, rfl⟩
  case round =>
    obtain ⟨k, k1, k2, rfl⟩ := hrel
    by_cases hk : k < n
    · have g1 := HB.out k k1 hk
      have g2 := primeE_lt (show k < 2147483648 by omega)
      go_wp2_with (first
          | (go_at_call 11; refine (wakes_any _).mono ?_; rintro e w1 ⟨rfl, hb1⟩)
          | (go_at_call 12; refine (Prime_any _ (by omega) _).mono ?_; rintro e w2 ⟨rfl, rfl⟩)
          | (go_at_call 13; refine (Below_any _ (by omega) _).mono ?_; rintro e w2 ⟨rfl, rfl⟩)
          | (go_at_call 14; refine (prime_any _ (by omega) _).mono ?_; rintro e w2 ⟨rfl, rfl⟩))
      go_round
      case rel => exact ⟨k + 1, by omega, by omega, rfl⟩
      case measure => simp [intOf]; omega
    · go_wp2_with fail
      go_ret
      exact ⟨rfl, hb1⟩

theorem gap_any (n x y : Int) (n0 : 0 ≤ n) (x0 : 0 ≤ x) (x1 : x ≤ 4294967295) (y0 : 0 ≤ y) (y1 : y ≤ 4294967295) (w : World) :
    Calls Try.prog 3 #[.int .u64 n, .int .u32 x, .int .u32 y] w fun e w' => e = .returned (.bool true) ∧ Below w.heap.size w w' := by
  rcases (by omega : 2147483648 < n ∨ n < 3 ∨ n = 2147483648 ∨ (3 ≤ n ∧ n < 2147483648)) with h | h | h | ⟨h3, h⟩ <;>
    (by_cases hx : x < 2147483648
     · by_cases hy : y < 2147483648
       · by_cases hz : (x + 2) * (y + 2) < 2147483648
         · first | exact gap_A1 n x y n0 x0 x1 y0 y1 hx hy hz h w | exact gap_A2 n x y n0 x0 x1 y0 y1 hx hy hz h w | exact gap_A3 n x y n0 x0 x1 y0 y1 hx hy hz h w | exact gap_A4 n x y n0 x0 x1 y0 y1 hx hy hz h3 h w
         · have hz := Int.not_lt.1 hz
           first | exact gap_B1 n x y n0 x0 x1 y0 y1 hx hy hz h w | exact gap_B2 n x y n0 x0 x1 y0 y1 hx hy hz h w | exact gap_B3 n x y n0 x0 x1 y0 y1 hx hy hz h w | exact gap_B4 n x y n0 x0 x1 y0 y1 hx hy hz h3 h w
       · have hy := Int.not_lt.1 hy
         first | exact gap_D1 n x y n0 x0 x1 y0 y1 hx hy h w | exact gap_D2 n x y n0 x0 x1 y0 y1 hx hy h w | exact gap_D3 n x y n0 x0 x1 y0 y1 hx hy h w | exact gap_D4 n x y n0 x0 x1 y0 y1 hx hy h3 h w
     · have hx := Int.not_lt.1 hx
       first | exact gap_C1 n x y n0 x0 x1 y0 y1 hx h w | exact gap_C2 n x y n0 x0 x1 y0 y1 hx h w | exact gap_C3 n x y n0 x0 x1 y0 y1 hx h w | exact gap_C4 n x y n0 x0 x1 y0 y1 hx h3 h w)

end Go.Proofs.Ytdlpemmoobbgnaa
