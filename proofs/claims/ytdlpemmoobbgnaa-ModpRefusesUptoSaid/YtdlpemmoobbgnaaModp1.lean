/- The walks of modp's field: residue, inverse, scale, take. -/
import Derived.Test.YtdlpemmoobbgnaaDiv64Q
import Derived.Test.YtdlpemmoobbgnaaMem
import Derived.Test.YtdlpemmoobbgnaaModA
set_option linter.unusedVariables false
set_option linter.unusedSimpArgs false
namespace Go.Proofs.Ytdlpemmoobbgnaa
open Go.RowKit

/-- the residue of an integer -/
def resid (r : Raw) (p : Int) : Int := if r.neg = true ∧ 0 < r.mag % p then p - r.mag % p else r.mag % p

theorem ret_u64 {a b : Int} (h : a = b) : Ending.returned (.int .u64 a) = .returned (.int .u64 b) := by rw [h]

theorem horner (x y p : Int) : (x % p * 18446744073709551616 + y) % p = (y + 18446744073709551616 * x) % p := by
  rw [Int.mul_comm 18446744073709551616 x, Int.add_comm y, Int.add_emod, Int.mul_emod, Int.emod_emod_of_dvd x (Int.dvd_refl p), ← Int.mul_emod, ← Int.add_emod]

set_option maxHeartbeats 1000000 in
theorem residue_any (p : Int) (h1 : 1 ≤ p) (h2 : p < 2147483648) (v : Value) (r : Raw) (w : World) (hr : RdI w v r) :
    Calls Try.prog 55 #[.int .u64 p, v] w fun e w' => e = .returned (.int .u64 (resid r p)) ∧ Below w.heap.size w w' := by
  obtain ⟨m, rfl, ⟨a, cap, rfl, g1, g2, g3⟩, g4⟩ := hr
  obtain ⟨neg, n, f⟩ := r
  simp only at g1 g2 g3 g4 ⊢
  have n0 : 0 ≤ (n : Int) := by omega
  have n1 : (n : Int) ≤ 17592186044416 := by omega
  have G3 := Lib.hid g3
  have G4 := Lib.hid g4
  clear g3 g4 g1 g2
  go_enter Try.func55, Try.ntmps55
  go_wp2_with fail
  go_loopw [5, 6] (fun r i wr => ∃ m : Nat, m ≤ n ∧ r = .int .u64 (natFrom f m (n - m) % p) ∧ i = .int .i64 ((m : Int) - 1) ∧ Below w.heap.size w wr ∧
      wr.cell? ⟨w.heap.size, 0, none⟩ = some (.bool neg) ∧ wr.cell? ⟨w.heap.size, 1, none⟩ = some (.slice a n cap))
    (fun _ i _ => (intOf i + 1).toNat)
  case atStart => exact ⟨n, Nat.le_refl _, by rw [Nat.sub_self]; rfl, rfl, (Below.refl _ _).alloc (Nat.le_refl _) _, by go_simp, by go_simp⟩
  case round =>
    obtain ⟨m, hm, rfl, rfl, hb, x0, x1⟩ := hrel
    have p0 := Int.emod_nonneg (natFrom f m (n - m)) (show p ≠ 0 by omega)
    have p1 := Int.emod_lt_of_pos (natFrom f m (n - m)) (show 0 < p by omega)
    obtain ⟨q, hq⟩ : ∃ q, q = natFrom f m (n - m) % p := ⟨_, rfl⟩
    rw [← hq] at p0 p1 ⊢
    have HQ := Lib.hid hq
    clear hq
    rcases m with _ | j
    · go_wp2_with fail
      all_goals go_ret
      all_goals refine ⟨ret_u64 ?_, below_drewN hb 0⟩
      all_goals (have hq : Raw.mag ⟨neg, n, f⟩ % p = q := HQ.out.symm; unfold resid; rw [hq]; simp_all)
      all_goals omega
    · obtain ⟨b, o, ha, hc⟩ := G3.out (by omega)
      subst ha
      have hj : j < n := by omega
      have c1 := cell_stays hb (hc j hj)
      obtain ⟨c2, c3⟩ := G4.out j hj
      clear hc
      obtain ⟨x, hx⟩ : ∃ x, x = f j := ⟨_, rfl⟩
      rw [← hx] at c1 c2 c3
      have HX := Lib.hid hx
      clear hx
      go_wp2_with (go_at_call 78; refine (Div64_any q x p _ p0 p1 (by omega) c2 c3).mono ?_; rintro e w' ⟨rfl, nn, rfl⟩)
      go_roundw
      case rel => 
        refine ⟨j, by omega, ?_, by go_num, below_drewN hb _, by simpa using x0, by simpa using x1⟩
        rw [HQ.out, HX.out, horner, show n - j = (n - (j + 1)) + 1 by omega]; rfl
      case measure => simp [intOf]
/-- what inverse answers -/
def invm (p x : Int) : Int := x ^ (p - 2).toNat % p

set_option maxHeartbeats 1000000 in
theorem inverse_any (p x : Int) (h1 : 2 ≤ p) (h2 : p < 2147483648) (x0 : 0 ≤ x) (x1 : x < p) (w : World) :
    Calls Try.prog 73 #[.int .u64 p, .int .u64 x] w fun e w' => e = .returned (.int .u64 (invm p x)) ∧ w = w' := by
  go_enter Try.func73, Try.ntmps73
  go_wp2_with fail
  go_loop [1, 5, 6] (fun c y e => ∃ (a b : Int) (m : Nat), 0 ≤ a ∧ a < p ∧ 0 ≤ b ∧ b < p ∧ (m : Int) < 2147483648 ∧ Hid (a * b ^ m % p = invm p x) ∧ c = .int .u64 b ∧ y = .int .u64 a ∧ e = .int .u64 m)
    (fun _ _ e => (intOf e).toNat)
  case atStart => exact ⟨1, x, (p - 2).toNat, by omega, by omega, x0, x1, by omega, by rw [Int.one_mul]; rfl, rfl, rfl, by congr 1; omega⟩
  case round =>
    obtain ⟨a, b, m, a0, a1, b0, b1, m1, hm, rfl, rfl, rfl⟩ := hrel
    obtain ⟨q1, q2⟩ := md.prod_bd a b p a0 a1 b0 b1 h2
    obtain ⟨s1, s2⟩ := md.prod_bd b b p b0 b1 b0 b1 h2
    obtain ⟨t1, t2⟩ := md.mod_bd (a * b) p (by omega)
    obtain ⟨u1, u2⟩ := md.mod_bd (b * b) p (by omega)
    rcases Nat.eq_zero_or_pos m with rfl | hj
    · go_wp2_with fail
      go_ret
      exact ⟨ret_u64 (by rw [← hm.out, Int.pow_zero, Int.mul_one, Int.emod_eq_of_lt a0 a1]), rfl⟩
    · have hj' : 0 < (m : Int) := by omega
      by_cases ho : m % 2 = 1
      · have hb : ((m : Int) % 2 == 1) = true := beq_iff_eq.2 (by omega)
        have HO := Lib.hid ho
        clear ho
        go_wp2_with fail
        go_round
        case rel => exact ⟨a * b % p, b * b % p, m / 2, t1, t2, u1, u2, by omega, by show _ = _; rw [md.odd_step a b p _ HO.out]; exact hm.out, rfl, rfl, by congr 1⟩
        case measure => simp [intOf]; omega
      · have hb : ((m : Int) % 2 == 1) = false := beq_eq_false_iff_ne.2 (by omega)
        have HO := Lib.hid ho
        clear ho
        go_wp2_with fail
        go_round
        case rel => exact ⟨a, b * b % p, m / 2, a0, a1, u1, u2, by omega, by show _ = _; rw [md.even_step a b p _ (by have := HO.out; omega)]; exact hm.out, rfl, rfl, by congr 1⟩
        case measure => simp [intOf]; omega

set_option maxHeartbeats 1000000 in
theorem scale_any (p x : Int) (h1 : 1 ≤ p) (h2 : p < 2147483648) (x0 : 0 ≤ x) (x1 : x < p) (b o n cap s : Nat) (f : Nat → Int) (hn : n ≤ 17592186044416) (hs : s ≤ n)
    (hf : ∀ i, i < n → 0 ≤ f i ∧ f i < p) (w : World) (hr : RowAt .u64 w b o n f) :
    Calls Try.prog 72 #[.int .u64 p, .slice (some ⟨b, o, none⟩) n cap, .int .u64 x, .int .i64 s] w fun e w' =>
      e = .returned (.tuple #[]) ∧ RowAt .u64 w' b o n (fun i => if s ≤ i then f i * x % p else f i) ∧ w.grownBy w' (some b) := by
  have HF := Lib.hid hf
  clear hf
  go_enter Try.func72, Try.ntmps72
  go_wp2_with fail
  go_loopw [8] (fun i wr => ∃ j : Nat, s ≤ j ∧ j ≤ n ∧ i = .int .i64 j ∧ RowAt .u64 wr b o n (fun i => if s ≤ i ∧ i < j then f i * x % p else f i) ∧ w.grownBy wr (some b))
    (fun i _ => n - (intOf i).toNat)
  case atStart => exact ⟨s, Nat.le_refl _, hs, rfl, hr.congr fun i _ => by rw [if_neg (by omega)], gb_refl _ _⟩
  case round =>
    obtain ⟨j, j0, j1, rfl, hj, hg⟩ := hrel
    by_cases hjn : j < n
    · obtain ⟨f0, f1⟩ := HF.out j hjn
      obtain ⟨y, hy⟩ : ∃ y, y = f j := ⟨_, rfl⟩
      obtain ⟨c1, c2⟩ := hj.get hjn (x := y) ((if_neg (by omega)).trans hy.symm)
      rw [← hy] at f0 f1
      obtain ⟨q1, q2⟩ := md.prod_bd y x p f0 f1 x0 x1 h2
      have HY := Lib.hid hy
      have HJ := Lib.hid hj
      clear hy hj
      go_wp2_with fail
      go_roundw
      case rel =>
        refine ⟨j + 1, by omega, by omega, by go_num, (HJ.out.set hjn _).congr fun i hi => ?_, gb_trans hg (gb_set _ _ _)⟩
        by_cases e : i = j
        · rw [if_pos e, if_pos (by omega), e, HY.out]
        · rw [if_neg e]
          by_cases e2 : s ≤ i ∧ i < j
          · rw [if_pos e2, if_pos (by omega)]
          · rw [if_neg e2, if_neg (by omega)]
      case measure => simp [intOf]; omega
    · have HJ := Lib.hid hj
      clear hj
      go_wp2_with fail
      go_end0
      refine ⟨rfl, HJ.out.congr fun i hi => ?_, hg⟩
      by_cases e2 : s ≤ i
      · rw [if_pos e2, if_pos (by omega)]
      · rw [if_neg e2, if_neg (by omega)]

end Go.Proofs.Ytdlpemmoobbgnaa
