/- The walks of modp.Prime, modp.Below and the law's own trial division: each answers by 'isPB', 'belowP'. -/
import Derived.Test.YtdlpemmoobbgnaaProg
import Derived.WalkKit
import Derived.WalkSpells
import Derived.WalkLawsBesides
import Derived.Lib.Hide
import Derived.Test.YtdlpemmoobbgnaaPr
set_option linter.unusedVariables false
set_option linter.unusedSimpArgs false
namespace Go.Proofs.Ytdlpemmoobbgnaa
open Go.RowKit

theorem ret_bool {a b : Bool} (h : a = b) : Ending.returned (.bool a) = .returned (.bool b) := by rw [h]

/-- what the law's trial division answers -/
def primeB (n : Int) : Bool := decide (n < 2147483648) && isPB n.toNat

set_option maxHeartbeats 400000 in
theorem prime_any (n : Int) (h0 : 0 ≤ n) (w : World) :
    Calls Try.prog 14 #[.int .u64 n] w fun e w' => e = .returned (.bool (primeB n)) ∧ w = w' := by
  by_cases h2 : n < 2
  · go_enter Try.func14, Try.ntmps14
    go_wp2
    go_ret
    exact ⟨ret_bool (by unfold primeB; rw [isPB_small n h2, Bool.and_false]), rfl⟩
  by_cases hb : 2147483648 ≤ n
  · go_enter Try.func14, Try.ntmps14
    go_wp2
    go_ret
    exact ⟨ret_bool (by unfold primeB; rw [decide_eq_false (by omega), Bool.false_and]), rfl⟩
  have hge : 2 ≤ n := by omega
  have hlt : n < 2147483648 := by omega
  clear h2 hb h0
  go_enter Try.func14, Try.ntmps14
  go_wp2
  go_loop [3] (fun d => ∃ k : Int, 2 ≤ k ∧ k ≤ 46342 ∧ Hid (∀ e : Int, 2 ≤ e → e < k → n % e ≠ 0) ∧ d = .int .u64 k) (fun d => (46343 - intOf d).toNat)
  case atStart => exact ⟨2, by omega, by omega, fun e a b => absurd a (by omega), rfl⟩
  case round =>
    obtain ⟨k, k2, k3, hd, rfl⟩ := hrel
    obtain ⟨q1, q2⟩ := sq_bd k (by omega) (by omega)
    by_cases ht : k * k ≤ n
    · by_cases hz : n % k = 0
      · go_wp2
        go_ret
        exact ⟨ret_bool (by unfold primeB; rw [isPB_no n k k2 ht hz, Bool.and_false]), rfl⟩
      · have hzb : (n % k == 0) = false := beq_eq_false_iff_ne.2 hz
        have HZ := Lib.hid hz
        have hk := Lib.hid (sq_lt n k (by omega) ht hlt)
        clear hz
        go_wp2
        go_round
        case rel => exact ⟨k + 1, by omega, by have := hk.out; omega, step1 n k hd.out HZ.out, rfl⟩
        case measure => simp [intOf]; omega
    · go_wp2
      go_ret
      exact ⟨ret_bool (by unfold primeB; rw [isPB_yes n k hge hd.out (by omega) (by omega), decide_eq_true hlt]; rfl), rfl⟩

theorem ret_be {a b : Bool} {x y : Int} (h : a = b) (g : x = y) : Ending.returned (.tuple #[.bool a, .int .i64 x]) = .returned (.tuple #[.bool b, .int .i64 y]) := by rw [h, g]
theorem ret_ue {a b : Int} {x y : Int} (h : a = b) (g : x = y) : Ending.returned (.tuple #[.int .u64 a, .int .i64 x]) = .returned (.tuple #[.int .u64 b, .int .i64 y]) := by rw [h, g]

/-- what modp.Prime answers beside the flag -/
def primeE (n : Int) : Int := if n < 2147483648 then 0 else 5
theorem primeE_lt {n : Int} (h : n < 2147483648) : primeE n = 0 := if_pos h
theorem primeE_ge {n : Int} (h : 2147483648 ≤ n) : primeE n = 5 := if_neg (by omega)

set_option maxHeartbeats 400000 in
theorem Prime_any (n : Int) (h0 : 0 ≤ n) (w : World) :
    Calls Try.prog 12 #[.int .u64 n] w fun e w' => e = .returned (.tuple #[.bool (primeB n), .int .i64 (primeE n)]) ∧ w = w' := by
  by_cases hb : 2147483648 ≤ n
  · go_enter Try.func12, Try.ntmps12
    go_wp2
    go_ret2
    exact ⟨ret_be (by unfold primeB; rw [decide_eq_false (by omega), Bool.false_and]) (primeE_ge hb).symm, rfl⟩
  have hlt : n < 2147483648 := by omega
  have HE := Lib.hid (primeE_lt hlt)
  clear hb
  by_cases h2 : n < 4
  · by_cases h3 : 2 ≤ n
    · have HP : Hid (isPB n.toNat = true) := by
        rcases (by omega : n = 2 ∨ n = 3) with r | r <;> subst r
        · exact (by decide : isPB 2 = true)
        · exact (by decide : isPB 3 = true)
      go_enter Try.func12, Try.ntmps12
      go_wp2
      go_ret2
      exact ⟨ret_be (by unfold primeB; rw [HP.out, decide_eq_true hlt]; simp [h3]) HE.out.symm, rfl⟩
    · go_enter Try.func12, Try.ntmps12
      go_wp2
      go_ret2
      exact ⟨ret_be (by unfold primeB; rw [isPB_small n (by omega), Bool.and_false]) HE.out.symm, rfl⟩
  have hge : 4 ≤ n := by omega
  clear h2
  by_cases m2 : n % 2 = 0
  · have B2 : (n % 2 == 0) = true := beq_iff_eq.2 m2
    have M2 := Lib.hid m2
    clear m2
    go_enter Try.func12, Try.ntmps12
    go_wp2
    go_ret2
    exact ⟨ret_be (by unfold primeB; rw [isPB_no n 2 (by omega) (by omega) M2.out, Bool.and_false]) HE.out.symm, rfl⟩
  have B2 : (n % 2 == 0) = false := beq_eq_false_iff_ne.2 m2
  have M2 := Lib.hid m2
  clear m2
  by_cases m3 : n % 3 = 0
  · have B3 : (n % 3 == 0) = true := beq_iff_eq.2 m3
    have M3 := Lib.hid m3
    clear m3
    go_enter Try.func12, Try.ntmps12
    go_wp2
    go_ret2
    by_cases h9 : n < 9
    · rcases (by have := M3.out; have := M2.out; omega : n = 6 ∨ n = 9) with r | r
      · exact absurd r (by have := M2.out; omega)
      · omega
    · exact ⟨ret_be (by unfold primeB; rw [isPB_no n 3 (by omega) (by omega) M3.out, Bool.and_false]) HE.out.symm, rfl⟩
  have B3 : (n % 3 == 0) = false := beq_eq_false_iff_ne.2 m3
  have M3 := Lib.hid m3
  clear m3
  have W0 := Lib.hid (wheel0 n M2.out M3.out)
  clear h0
  go_enter Try.func12, Try.ntmps12
  go_wp2
  go_loop [4] (fun d => ∃ k : Int, 5 ≤ k ∧ k ≤ 46347 ∧ Hid (k % 6 = 5) ∧ Hid (∀ e : Int, 2 ≤ e → e < k → n % e ≠ 0) ∧ d = .int .u64 k) (fun d => (46348 - intOf d).toNat)
  case atStart => exact ⟨5, by omega, by omega, (by decide : (5 : Int) % 6 = 5), W0.out, rfl⟩
  case round =>
    obtain ⟨k, k2, k3, k6, hd, rfl⟩ := hrel
    obtain ⟨q1, q2⟩ := sq_bd k (by omega) (by omega)
    by_cases ht : k * k ≤ n
    · by_cases hz : n % k = 0
      · have hzb : (n % k == 0) = true := beq_iff_eq.2 hz
        have HZ := Lib.hid hz
        clear hz
        go_wp2
        go_ret2
        exact ⟨ret_be (by unfold primeB; rw [isPB_no n k (by omega) ht HZ.out, Bool.and_false]) HE.out.symm, rfl⟩
      · have hzb : (n % k == 0) = false := beq_eq_false_iff_ne.2 hz
        have HZ := Lib.hid hz
        have hk := Lib.hid (sq_lt n k (by omega) ht hlt)
        clear hz
        by_cases hy : n % (k + 2) = 0
        · have hyb : (n % (k + 2) == 0) = true := beq_iff_eq.2 hy
          have HY := Lib.hid hy
          have HP : Hid (isPB n.toNat = false) := isPB_two n k k2 ht (sq_lt n k (by omega) ht hlt) hy hge
          clear hy
          go_wp2
          go_ret2
          exact ⟨ret_be (by unfold primeB; rw [HP.out, Bool.and_false]) HE.out.symm, rfl⟩
        · have hyb : (n % (k + 2) == 0) = false := beq_eq_false_iff_ne.2 hy
          have HY := Lib.hid hy
          clear hy
          go_wp2
          go_round
          case rel => exact ⟨k + 6, by omega, by have := hk.out; omega, (by have := k6.out; show (k + 6) % 6 = 5; omega), wheel n k k6.out M2.out M3.out hd.out HZ.out HY.out, rfl⟩
          case measure => simp [intOf]; omega
    · go_wp2
      go_ret2
      exact ⟨ret_be (by unfold primeB; rw [isPB_yes n k (by omega) hd.out (by omega) (by omega), decide_eq_true hlt]; rfl) HE.out.symm, rfl⟩

/-- what modp.Below answers -/
def belowU (n : Int) : Int := if 2147483648 < n then 0 else (belowP n.toNat : Int)
def belowE (n : Int) : Int := if 2147483648 < n then 5 else if belowP n.toNat = 0 then 6 else 0

set_option maxHeartbeats 400000 in
theorem Below_any (n : Int) (h0 : 0 ≤ n) (w : World) :
    Calls Try.prog 13 #[.int .u64 n] w fun e w' => e = .returned (.tuple #[.int .u64 (belowU n), .int .i64 (belowE n)]) ∧ w = w' := by
  by_cases hb : 2147483648 < n
  · go_enter Try.func13, Try.ntmps13
    go_wp2
    go_ret2
    exact ⟨ret_ue (if_pos hb).symm (if_pos hb).symm, rfl⟩
  have hlt : n ≤ 2147483648 := by omega
  clear hb
  go_enter Try.func13, Try.ntmps13
  go_wp2
  go_loop [0] (fun d => ∃ k : Int, 0 ≤ k ∧ k ≤ n ∧ Hid (belowP k.toNat = belowP n.toNat) ∧ d = .int .u64 k) (fun d => (intOf d).toNat)
  case atStart => exact ⟨n, by omega, by omega, rfl, rfl⟩
  case round =>
    obtain ⟨k, k0, k1, hk, rfl⟩ := hrel
    by_cases h2 : 2 < k
    · by_cases hp : isPB (k - 1).toNat = true
      · have HP : Hid (belowP n.toNat = (k - 1).toNat) := by rw [← hk.out, belowP_succ k (by omega), if_pos hp]; rfl
        have HQ : primeB (k - 1) = true := by unfold primeB; rw [hp, decide_eq_true (by omega)]; rfl
        clear hp
        go_wp2_with (go_at_call 12; refine (Prime_any _ (by omega) _).mono ?_; rintro e w' ⟨rfl, rfl⟩)
        go_ret2
        exact ⟨ret_ue (by unfold belowU; rw [if_neg (by omega), HP.out]; omega) (by unfold belowE; rw [if_neg (by omega), if_neg (by rw [HP.out]; omega)]), rfl⟩
      · have HP : Hid (belowP (k - 1).toNat = belowP n.toNat) := by rw [← hk.out, belowP_succ k (by omega), if_neg hp]; rfl
        have HQ : primeB (k - 1) = false := by unfold primeB; rw [Bool.eq_false_iff.2 hp, Bool.and_false]
        clear hp
        go_wp2_with (go_at_call 12; refine (Prime_any _ (by omega) _).mono ?_; rintro e w' ⟨rfl, rfl⟩)
        go_round
        case rel => exact ⟨k - 1, by omega, by omega, HP, rfl⟩
        case measure => simp [intOf]; omega
    · have HP : Hid (belowP n.toNat = 0) := by rw [← hk.out]; exact belowP_small k (by omega)
      go_wp2
      go_ret2
      exact ⟨ret_ue (by unfold belowU; rw [if_neg (by omega), HP.out]; rfl) (by unfold belowE; rw [if_neg (by omega), if_pos HP.out]), rfl⟩

end Go.Proofs.Ytdlpemmoobbgnaa
