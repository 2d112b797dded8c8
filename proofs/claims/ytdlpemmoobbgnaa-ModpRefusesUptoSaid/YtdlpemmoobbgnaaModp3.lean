/- The walks of mat.side, mat.Check, modp.open. -/
import Derived.Test.YtdlpemmoobbgnaaPrW
import Derived.Test.YtdlpemmoobbgnaaMem
import Derived.Deep.RegionWith
set_option linter.unusedVariables false
set_option linter.unusedSimpArgs false
namespace Go.Proofs.Ytdlpemmoobbgnaa
open Go.RowKit

def sideB (n : Int) : Bool := decide (0 ≤ n ∧ n ≤ 64)
/-- is a matrix of this shape, with n entries, sound? -/
def soundB (r c : Int) (n : Nat) : Bool := sideB r && sideB c && decide ((n : Int) = r * c)
def checkE (r c : Int) (n : Nat) : Int := if soundB r c n = true then 0 else 1

theorem sideB_yes {n : Int} (h : sideB n = true) : 0 ≤ n ∧ n ≤ 64 := by simpa [sideB] using h
theorem soundB_yes {r c : Int} {n : Nat} (h : soundB r c n = true) : (0 ≤ r ∧ r ≤ 64) ∧ (0 ≤ c ∧ c ≤ 64) ∧ (n : Int) = r * c := by
  unfold soundB at h
  simp only [Bool.and_eq_true, decide_eq_true_eq] at h
  exact ⟨sideB_yes h.1.1, sideB_yes h.1.2, h.2⟩

set_option maxHeartbeats 400000 in
theorem side_any (n : Int) (w : World) :
    Calls Try.prog 98 #[.int .i64 n] w fun e w' => e = .returned (.bool (sideB n)) ∧ w = w' := by
  by_cases h0 : 0 ≤ n
  · by_cases h1 : n ≤ 64
    · go_enter Try.func98, Try.ntmps98
      go_wp2
      go_ret
      exact ⟨ret_bool (by unfold sideB; symm; simp; omega), rfl⟩
    · go_enter Try.func98, Try.ntmps98
      go_wp2
      go_ret
      exact ⟨ret_bool (by unfold sideB; symm; simp; omega), rfl⟩
  · go_enter Try.func98, Try.ntmps98
    go_wp2
    go_ret
    exact ⟨ret_bool (by unfold sideB; symm; simp; omega), rfl⟩

theorem ret_i64 {a b : Int} (h : a = b) : Ending.returned (.int .i64 a) = .returned (.int .i64 b) := by rw [h]

theorem prod64 {r c : Int} (h : 0 ≤ r ∧ r ≤ 64) (g : 0 ≤ c ∧ c ≤ 64) : 0 ≤ r * c ∧ r * c ≤ 4096 :=
  ⟨Int.mul_nonneg h.1 g.1, by have := Int.mul_le_mul h.2 g.2 g.1 (by omega); omega⟩

set_option maxHeartbeats 400000 in
theorem Check_any (r c : Int) (a : Option Addr) (n cap : Nat) (hn : n ≤ 17592186044416) (w : World) :
    Calls Try.prog 71 #[.agg #[.int .i64 r, .int .i64 c, .slice a n cap]] w fun e w' => e = .returned (.int .i64 (checkE r c n)) ∧ Below w.heap.size w w' := by
  by_cases hr : sideB r = true
  · by_cases hc : sideB c = true
    · obtain ⟨m0, m1⟩ := prod64 (sideB_yes hr) (sideB_yes hc)
      by_cases he : (n : Int) = r * c
      · have hs : Hid (checkE r c n = 0) := by show _ = _; unfold checkE soundB; simp [hr, hc, he]
        have hne : ((n : Int) != r * c) = false := by rw [bne_eq_false_iff_eq]; exact he
        clear he
        go_enter Try.func71, Try.ntmps71
        go_wp2_with (first | (go_at_call_of 98 (Value.int .i64 r); refine (side_any r _).mono ?_; rintro e w' ⟨rfl, rfl⟩) | (go_at_call_of 98 (Value.int .i64 c); refine (side_any c _).mono ?_; rintro e w' ⟨rfl, rfl⟩))
        go_ret
        exact ⟨ret_i64 hs.out.symm, (Below.refl _ _).alloc (Nat.le_refl _) _⟩
      · have hs : Hid (checkE r c n = 1) := by show _ = _; unfold checkE soundB; simp [hr, hc, he]
        have hne : ((n : Int) != r * c) = true := by rw [bne_iff_ne]; exact he
        clear he
        go_enter Try.func71, Try.ntmps71
        go_wp2_with (first | (go_at_call_of 98 (Value.int .i64 r); refine (side_any r _).mono ?_; rintro e w' ⟨rfl, rfl⟩) | (go_at_call_of 98 (Value.int .i64 c); refine (side_any c _).mono ?_; rintro e w' ⟨rfl, rfl⟩))
        go_ret
        exact ⟨ret_i64 hs.out.symm, (Below.refl _ _).alloc (Nat.le_refl _) _⟩
    · have hc : sideB c = false := by simpa using hc
      have hs : Hid (checkE r c n = 1) := by show _ = _; unfold checkE soundB; simp [hr, hc]
      go_enter Try.func71, Try.ntmps71
      go_wp2_with (first | (go_at_call_of 98 (Value.int .i64 r); refine (side_any r _).mono ?_; rintro e w' ⟨rfl, rfl⟩) | (go_at_call_of 98 (Value.int .i64 c); refine (side_any c _).mono ?_; rintro e w' ⟨rfl, rfl⟩))
      go_ret
      exact ⟨ret_i64 hs.out.symm, (Below.refl _ _).alloc (Nat.le_refl _) _⟩
  · have hr : sideB r = false := by simpa using hr
    have hs : Hid (checkE r c n = 1) := by show _ = _; unfold checkE soundB; simp [hr]
    go_enter Try.func71, Try.ntmps71
    go_wp2_with (first | (go_at_call_of 98 (Value.int .i64 r); refine (side_any r _).mono ?_; rintro e w' ⟨rfl, rfl⟩) | (go_at_call_of 98 (Value.int .i64 c); refine (side_any c _).mono ?_; rintro e w' ⟨rfl, rfl⟩))
    go_ret
    exact ⟨ret_i64 hs.out.symm, (Below.refl _ _).alloc (Nat.le_refl _) _⟩

/-- the error of the calls with a prime -/
def openE (r c : Int) (n : Nat) (p : Int) (fit : Bool) : Int :=
  if soundB r c n = true then if fit = true then if primeB p = true then 0 else 9 else 2 else 1

set_option maxHeartbeats 400000 in
theorem open_any (r c : Int) (a : Option Addr) (n cap : Nat) (hn : n ≤ 17592186044416) (p : Int) (hp : 0 ≤ p) (fit : Bool) (w : World) :
    Calls Try.prog 43 #[.agg #[.int .i64 r, .int .i64 c, .slice a n cap], .int .u64 p, .bool fit] w fun e w' => e = .returned (.int .i64 (openE r c n p fit)) ∧ Below w.heap.size w w' := by
  by_cases hs : soundB r c n = true
  · have h1 : checkE r c n = 0 := if_pos hs
    cases fit with
    | true =>
      by_cases hq : primeB p = true
      · have he : Hid (openE r c n p true = 0) := by show _ = _; unfold openE; rw [if_pos hs, if_pos rfl, if_pos hq]
        go_enter Try.func43, Try.ntmps43
        go_wp2_with (first | (go_at_call 71; refine (Check_any r c a n cap hn _).mono ?_; rintro e w1 ⟨rfl, hb1⟩) | (go_at_call 12; refine (Prime_any p hp _).mono ?_; rintro e w2 ⟨rfl, rfl⟩))
        go_ret
        exact ⟨ret_i64 he.out.symm, ((Below.refl _ _).alloc (Nat.le_refl _) _).trans (hb1.mono (by simp))⟩
      · have hq : primeB p = false := by simpa using hq
        have he : Hid (openE r c n p true = 9) := by show _ = _; unfold openE; rw [if_pos hs, if_pos rfl, if_neg (by simp [hq])]
        go_enter Try.func43, Try.ntmps43
        go_wp2_with (first | (go_at_call 71; refine (Check_any r c a n cap hn _).mono ?_; rintro e w1 ⟨rfl, hb1⟩) | (go_at_call 12; refine (Prime_any p hp _).mono ?_; rintro e w2 ⟨rfl, rfl⟩))
        go_ret
        exact ⟨ret_i64 he.out.symm, ((Below.refl _ _).alloc (Nat.le_refl _) _).trans (hb1.mono (by simp))⟩
    | false =>
      have he : Hid (openE r c n p false = 2) := by show _ = _; unfold openE; rw [if_pos hs, if_neg (by simp)]
      go_enter Try.func43, Try.ntmps43
      go_wp2_with (first | (go_at_call 71; refine (Check_any r c a n cap hn _).mono ?_; rintro e w1 ⟨rfl, hb1⟩) | (go_at_call 12; refine (Prime_any p hp _).mono ?_; rintro e w2 ⟨rfl, rfl⟩))
      go_ret
      exact ⟨ret_i64 he.out.symm, ((Below.refl _ _).alloc (Nat.le_refl _) _).trans (hb1.mono (by simp))⟩
  · have h1 : checkE r c n = 1 := if_neg hs
    have he : Hid (openE r c n p fit = 1) := by show _ = _; unfold openE; rw [if_neg hs]
    go_enter Try.func43, Try.ntmps43
    go_wp2_with (first | (go_at_call 71; refine (Check_any r c a n cap hn _).mono ?_; rintro e w1 ⟨rfl, hb1⟩) | (go_at_call 12; refine (Prime_any p hp _).mono ?_; rintro e w2 ⟨rfl, rfl⟩))
    go_ret
    exact ⟨ret_i64 he.out.symm, ((Below.refl _ _).alloc (Nat.le_refl _) _).trans (hb1.mono (by simp))⟩

end Go.Proofs.Ytdlpemmoobbgnaa
