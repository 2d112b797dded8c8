/- The walks of trellisref12's isPrime, good, checks, split: what the document's side asks first. The walks of trellisref12's Prime and Below: they answer what modp's do. The walks of trellisref12's power, split, Residue. The walks of trellisref12's less and table. Plain: what trellisref12's stairs keeps: rows brought to steps by Euclid's steps on pairs of rows and exchanges. The walk of trellisref12's stairs. The walk of trellisref12's stairs. Plain: what trellisref12's reduced keeps: rows in steps brought to 1 at the pivots and 0 above them. The walk of trellisref12's reduced. Plain: steps can be reduced; so what stairs answers has the rank and the pivots of modp's elimination. Plain: the reference's steps and reduced rows are those of modp's elimination. -/
import Derived.Test.YtdlpemmoobbgnaaGB
import Derived.Test.YtdlpemmoobbgnaaGC
import Derived.Test.YtdlpemmoobbgnaaGG
import Derived.Test.YtdlpemmoobbgnaaGA
import Derived.StillTailTactics
import Derived.Deep.RegionHeld3
import Derived.Deep.DeepCutAuto
import Derived.Test.YtdlpemmoobbgnaaGN
import Derived.Deep.LoopGhost
import Derived.Test.YtdlpemmoobbgnaaGK
set_option linter.unusedVariables false
set_option linter.unusedSimpArgs false
namespace Go.Proofs.Ytdlpemmoobbgnaa
open Go.RowKit

theorem step2 (n k : Int) (h0 : n % 2 ≠ 0) (h : ∀ e : Int, 2 ≤ e → e < k → n % e ≠ 0) (hk : k % 2 = 1) (a : n % k ≠ 0) : ∀ e : Int, 2 ≤ e → e < k + 2 → n % e ≠ 0 := by
  intro e he hlt
  by_cases h1 : e < k
  · exact h e he h1
  by_cases h2 : e = k
  · rw [h2]; exact a
  · obtain rfl : e = k + 1 := by omega
    intro hz
    have h3 : (2 : Int) ∣ k + 1 := by omega
    have h4 : (k + 1) ∣ n := Int.dvd_of_emod_eq_zero hz
    have := Int.emod_eq_zero_of_dvd (Int.dvd_trans h3 h4)
    omega
theorem isPB_two_eq (n : Int) (h2 : 2 ≤ n) (h : n % 2 = 0) : isPB n.toNat = (n == 2) := by
  by_cases e : n = 2
  · subst e; decide
  · rw [isPB_no n 2 (by omega) (by omega) h]
    exact (beq_eq_false_iff_ne.2 e).symm

set_option maxHeartbeats 400000 in
theorem isPrime12_any (n : Int) (h0 : 0 ≤ n) (hlt : n < 2147483648) (w : World) :
    Calls Try.prog 110 #[.int .i64 n] w fun e w' => e = .returned (.bool (isPB n.toNat)) ∧ w = w' := by
  by_cases h2 : n < 2
  · go_enter Try.func110, Try.ntmps110
    go_wp2
    go_ret
    exact ⟨ret_bool (isPB_small n h2).symm, rfl⟩
  have hge : 2 ≤ n := by omega
  clear h2 h0
  by_cases m2 : n % 2 = 0
  · have B2 : (n % 2 == 0) = true := beq_iff_eq.2 m2
    have M2 := Lib.hid (isPB_two_eq n hge m2)
    clear m2
    go_enter Try.func110, Try.ntmps110
    go_wp2
    go_ret
    exact ⟨ret_bool M2.out.symm, rfl⟩
  have B2 : (n % 2 == 0) = false := beq_eq_false_iff_ne.2 m2
  have M2 := Lib.hid m2
  have W0 := Lib.hid (show ∀ e : Int, 2 ≤ e → e < 3 → n % e ≠ 0 from fun e a b => by rw [show e = 2 by omega]; exact m2)
  clear m2
  go_enter Try.func110, Try.ntmps110
  go_wp2
  go_loop [3] (fun d => ∃ k : Int, 3 ≤ k ∧ k ≤ 46345 ∧ Hid (k % 2 = 1) ∧ Hid (∀ e : Int, 2 ≤ e → e < k → n % e ≠ 0) ∧ d = .int .i64 k) (fun d => (46347 - intOf d).toNat)
  case atStart => exact ⟨3, by omega, by omega, (by decide : (3 : Int) % 2 = 1), W0.out, rfl⟩
  case round =>
    obtain ⟨k, k2, k3, k6, hd, rfl⟩ := hrel
    obtain ⟨q1, q2⟩ := sq_bd k (by omega) (by omega)
    by_cases ht : k * k ≤ n
    · by_cases hz : n % k = 0
      · have hzb : (n % k == 0) = true := beq_iff_eq.2 hz
        have HZ := Lib.hid hz
        clear hz
        go_wp2
        go_ret
        exact ⟨ret_bool (isPB_no n k (by omega) ht HZ.out).symm, rfl⟩
      · have hzb : (n % k == 0) = false := beq_eq_false_iff_ne.2 hz
        have HZ := Lib.hid hz
        have hk := Lib.hid (sq_lt n k (by omega) ht hlt)
        clear hz
        go_wp2
        go_round
        case rel => exact ⟨k + 2, by omega, by have := hk.out; omega, (by have := k6.out; show (k + 2) % 2 = 1; omega), step2 n k M2.out hd.out k6.out HZ.out, rfl⟩
        case measure => simp [intOf]; omega
    · go_wp2
      go_ret
      exact ⟨ret_bool (isPB_yes n k hge hd.out (by omega) (by omega)).symm, rfl⟩

set_option maxHeartbeats 400000 in
theorem good12_any (p : Int) (h0 : 0 ≤ p) (w : World) :
    Calls Try.prog 118 #[.int .u64 p] w fun e w' => e = .returned (.bool (primeB p)) ∧ w = w' := by
  by_cases hb : p < 2147483648
  · have HP := Lib.hid (show isPB p.toNat = primeB p by unfold primeB; rw [decide_eq_true hb]; rfl)
    have hi := fun W => isPrime12_any p h0 hb W
    rw [HP.out] at hi
    have HI := Lib.hid hi
    clear hi
    go_enter Try.func118, Try.ntmps118
    go_wp2_with (go_at_call 110; refine (HI.out _).mono ?_; rintro e w' ⟨rfl, rfl⟩)
    go_ret
    exact ⟨rfl, rfl⟩
  · go_enter Try.func118, Try.ntmps118
    go_wp2
    go_ret
    exact ⟨ret_bool (by unfold primeB; rw [decide_eq_false (by omega), Bool.false_and]), rfl⟩

set_option maxHeartbeats 400000 in
theorem Check09_all (r c : Int) (a : Option Addr) (n cap : Nat) (hn : n ≤ 17592186044416) (w : World) :
    Calls Try.prog 41 #[.agg #[.int .i64 r, .int .i64 c, .slice a n cap]] w fun e w' => e = .returned (.int .i64 (checkE r c n)) ∧ Below w.heap.size w w' := by
  by_cases hs : soundB r c n = true
  · obtain ⟨h1, h2, h3⟩ := soundB_yes hs
    rw [show checkE r c n = 0 from if_pos hs]
    exact Check09_any r c a n cap hn w h1 h2 h3
  · have hE : checkE r c n = 1 := if_neg hs
    rw [hE]
    have hbad : (r < 0) ∨ (0 ≤ r ∧ 64 < r) ∨ ((0 ≤ r ∧ r ≤ 64) ∧ c < 0) ∨ ((0 ≤ r ∧ r ≤ 64) ∧ 64 < c) ∨ ((0 ≤ r ∧ r ≤ 64) ∧ (0 ≤ c ∧ c ≤ 64) ∧ (0 ≤ r * c ∧ r * c ≤ 4096) ∧ ((n : Int) != r * c) = true) := by
      by_cases h1 : 0 ≤ r ∧ r ≤ 64
      · by_cases h2 : 0 ≤ c ∧ c ≤ 64
        · refine Or.inr (Or.inr (Or.inr (Or.inr ⟨h1, h2, prod64 h1 h2, ?_⟩)))
          rw [bne_iff_ne]
          intro h3
          exact hs (by unfold soundB sideB; simp [h1, h2, h3])
        · omega
      · omega
    clear hs hE
    rcases hbad with h1 | ⟨h1, h2⟩ | ⟨⟨h1, h2⟩, h3⟩ | ⟨⟨h1, h2⟩, h3⟩ | ⟨⟨h1, h2⟩, ⟨h3, h4⟩, ⟨m0, m1⟩, h5⟩
    all_goals
      go_enter Try.func41, Try.ntmps41
      go_wp2_with fail
      go_ret
      exact ⟨rfl, (Below.refl _ _).alloc (Nat.le_refl _) _⟩

theorem openE_1 {r c : Int} {n : Nat} {p : Int} {f : Bool} (h : ¬ soundB r c n = true) : openE r c n p f = 1 := if_neg h
theorem openE_2 {r c : Int} {n : Nat} {p : Int} (h : soundB r c n = true) : openE r c n p false = 2 := by unfold openE; rw [if_pos h, if_neg (by simp)]
theorem openE_9 {r c : Int} {n : Nat} {p : Int} (h : soundB r c n = true) (hp : primeB p = false) : openE r c n p true = 9 := by unfold openE; rw [if_pos h, if_pos rfl, if_neg (by simp [hp])]
theorem openE_0 {r c : Int} {n : Nat} {p : Int} (h : soundB r c n = true) (hp : primeB p = true) : openE r c n p true = 0 := by unfold openE; rw [if_pos h, if_pos rfl, if_pos hp]

set_option maxHeartbeats 1000000 in
theorem checks_any (r c : Int) (a : Option Addr) (n cap : Nat) (hn : n ≤ 17592186044416) (p : Int) (hp : 0 ≤ p) (sq : Bool) (w : World) :
    Calls Try.prog 111 #[.agg #[.int .i64 r, .int .i64 c, .slice a n cap], .int .u64 p, .bool sq] w fun e w' => e = .returned (.int .i64 (openE r c n p (!(sq && (r != c))))) ∧ Below w.heap.size w w' := by
  have hc := fun W => Check09_all r c a n cap hn W
  have hb0 : Below w.heap.size w (w.alloc (.cells #[.int .i64 r, .int .i64 c, .slice a n cap] 34)) := (Below.refl _ _).alloc (Nat.le_refl _) _
  have hx := cellsOf w [.int .i64 r, .int .i64 c, .slice a n cap] 34
  have x0 := (hx 0 _ rfl).1
  have x1 := (hx 1 _ rfl).1
  have x2 := (hx 2 _ rfl).1
  have HB0 := Lib.hid hb0
  by_cases hs : soundB r c n = true
  · have h1 : checkE r c n = 0 := if_pos hs
    rw [h1] at hc
    have HC := Lib.hid hc
    cases hf : (sq && (r != c))
    · have hg := fun W => good12_any p hp W
      have hE := openE_0 (p := p) hs
      have hE9 := openE_9 (p := p) hs
      have hfit : (!(sq && (r != c))) = true := by rw [hf]; rfl
      cases hq : primeB p
      · rw [hq] at hg
        have HE := Lib.hid (show openE r c n p (!false) = 9 from hE9 hq)
        have HG := Lib.hid hg
        cases sq
        · clear hg hE hE9 hfit hs h1 hc hx hb0 hf hq
          go_enter Try.func111, Try.ntmps111
          go_wp2_with (first | (go_at_call 41; refine (HC.out _).mono ?_; rintro e w1 ⟨rfl, hb1⟩; have x0' := cell_stays hb1 x0; have x1' := cell_stays hb1 x1; have HB1 := Lib.hid (HB0.out.trans (hb1.mono HB0.out.size)); clear hb1) | (go_at_call 118; refine (HG.out _).mono ?_; rintro e w2 ⟨rfl, rfl⟩))
          go_ret
          exact ⟨ret_i64 HE.out.symm, HB1.out⟩
        · have hrc : (r != c) = false := by simpa using hf
          clear hg hE hE9 hfit hs h1 hc hx hb0 hf hq
          go_enter Try.func111, Try.ntmps111
          go_wp2_with (first | (go_at_call 41; refine (HC.out _).mono ?_; rintro e w1 ⟨rfl, hb1⟩; have x0' := cell_stays hb1 x0; have x1' := cell_stays hb1 x1; have HB1 := Lib.hid (HB0.out.trans (hb1.mono HB0.out.size)); clear hb1) | (go_at_call 118; refine (HG.out _).mono ?_; rintro e w2 ⟨rfl, rfl⟩))
          go_ret
          exact ⟨ret_i64 HE.out.symm, HB1.out⟩
      · rw [hq] at hg
        have HE := Lib.hid (show openE r c n p (!false) = 0 from hE hq)
        have HG := Lib.hid hg
        cases sq
        · clear hg hE hE9 hfit hs h1 hc hx hb0 hf hq
          go_enter Try.func111, Try.ntmps111
          go_wp2_with (first | (go_at_call 41; refine (HC.out _).mono ?_; rintro e w1 ⟨rfl, hb1⟩; have x0' := cell_stays hb1 x0; have x1' := cell_stays hb1 x1; have HB1 := Lib.hid (HB0.out.trans (hb1.mono HB0.out.size)); clear hb1) | (go_at_call 118; refine (HG.out _).mono ?_; rintro e w2 ⟨rfl, rfl⟩))
          go_ret
          exact ⟨ret_i64 HE.out.symm, HB1.out⟩
        · have hrc : (r != c) = false := by simpa using hf
          clear hg hE hE9 hfit hs h1 hc hx hb0 hf hq
          go_enter Try.func111, Try.ntmps111
          go_wp2_with (first | (go_at_call 41; refine (HC.out _).mono ?_; rintro e w1 ⟨rfl, hb1⟩; have x0' := cell_stays hb1 x0; have x1' := cell_stays hb1 x1; have HB1 := Lib.hid (HB0.out.trans (hb1.mono HB0.out.size)); clear hb1) | (go_at_call 118; refine (HG.out _).mono ?_; rintro e w2 ⟨rfl, rfl⟩))
          go_ret
          exact ⟨ret_i64 HE.out.symm, HB1.out⟩
    · have hsq : sq = true := by cases sq <;> simp_all
      subst hsq
      have hrc : (r != c) = true := by simpa using hf
      have HE := Lib.hid (show openE r c n p (!true) = 2 from openE_2 hs)
      clear hs h1 hc hx hb0 hf
      go_enter Try.func111, Try.ntmps111
      go_wp2_with (go_at_call 41; refine (HC.out _).mono ?_; rintro e w1 ⟨rfl, hb1⟩; have x0' := cell_stays hb1 x0; have x1' := cell_stays hb1 x1; have HB1 := Lib.hid (HB0.out.trans (hb1.mono HB0.out.size)); clear hb1)
      go_ret
      exact ⟨ret_i64 HE.out.symm, HB1.out⟩
  · have h1 : checkE r c n = 1 := if_neg hs
    rw [h1] at hc
    have HC := Lib.hid hc
    rw [openE_1 hs]
    clear hs h1 hc hx hb0
    go_enter Try.func111, Try.ntmps111
    go_wp2_with (go_at_call 41; refine (HC.out _).mono ?_; rintro e w1 ⟨rfl, hb1⟩; have HB1 := Lib.hid (HB0.out.trans (hb1.mono HB0.out.size)); clear hb1)
    go_ret
    exact ⟨rfl, HB1.out⟩
end Go.Proofs.Ytdlpemmoobbgnaa

namespace Go.Proofs.Ytdlpemmoobbgnaa
open Go.RowKit

end Go.Proofs.Ytdlpemmoobbgnaa

namespace Go.Proofs.Ytdlpemmoobbgnaa
open Go.RowKit

set_option maxHeartbeats 1000000 in
theorem power12_any (p x n : Int) (h1 : 1 ≤ p) (h2 : p < 2147483648) (x0 : 0 ≤ x) (x1 : x < p) (n0 : 0 ≤ n) (n1 : n < 2147483648) (w : World) :
    Calls Try.prog 129 #[.int .i64 x, .int .i64 n, .int .i64 p] w fun e w' => e = .returned (.int .i64 (x ^ n.toNat % p)) ∧ w = w' := by
  obtain ⟨t1, t2⟩ := md.mod_bd 1 p (by omega)
  obtain ⟨X, hX⟩ : ∃ X, X = x ^ n.toNat % p := ⟨_, rfl⟩
  have hs : 1 % p * x ^ n.toNat % p = X := by rw [hX, Int.mul_emod, Int.emod_emod_of_dvd 1 (Int.dvd_refl p), ← Int.mul_emod, Int.one_mul]
  have HS := Lib.hid hs
  rw [← hX]
  clear hX hs
  go_enter Try.func129, Try.ntmps129
  go_wp2_with fail
  go_loop [0, 1, 7] (fun c e y => ∃ (a b : Int) (m : Nat), 0 ≤ a ∧ a < p ∧ 0 ≤ b ∧ b < p ∧ (m : Int) < 2147483648 ∧ Hid (a * b ^ m % p = X) ∧ c = .int .i64 b ∧ y = .int .i64 a ∧ e = .int .i64 m)
    (fun _ e _ => (intOf e).toNat)
  case atStart => exact ⟨1 % p, x, n.toNat, t1, t2, x0, x1, by omega, HS.out, rfl, rfl, by congr 1; omega⟩
  case round =>
    obtain ⟨a, b, m, a0, a1, b0, b1, m1, hm, rfl, rfl, rfl⟩ := hrel
    obtain ⟨q1, q2⟩ := md.prod_bd a b p a0 a1 b0 b1 h2
    obtain ⟨s1, s2⟩ := md.prod_bd b b p b0 b1 b0 b1 h2
    obtain ⟨t1, t2⟩ := md.mod_bd (a * b) p (by omega)
    obtain ⟨u1, u2⟩ := md.mod_bd (b * b) p (by omega)
    rcases Nat.eq_zero_or_pos m with rfl | hj
    · go_wp2_with fail
      go_ret
      exact ⟨ret_i64 (by rw [← hm.out, Int.pow_zero, Int.mul_one, Int.emod_eq_of_lt a0 a1]), rfl⟩
    · have hj' : 0 < (m : Int) := by omega
      by_cases ho : m % 2 = 1
      · have hb : ((m : Int) % 2 == 1) = true := beq_iff_eq.2 (by omega)
        have HO := Lib.hid ho
        clear ho
        go_wp2_with fail
        go_round
        case rel => exact ⟨a * b % p, b * b % p, m / 2, t1, t2, u1, u2, by omega, by show _ = _; rw [md.odd_step a b p _ HO.out]; exact hm.out, rfl, rfl, by go_num⟩
        case measure => simp [intOf]; omega
      · have hb : ((m : Int) % 2 == 1) = false := beq_eq_false_iff_ne.2 (by omega)
        have HO := Lib.hid ho
        clear ho
        go_wp2_with fail
        go_round
        case rel => exact ⟨a, b * b % p, m / 2, a0, a1, u1, u2, by omega, by show _ = _; rw [md.even_step a b p _ (by have := HO.out; omega)]; exact hm.out, rfl, rfl, by go_num⟩
        case measure => simp [intOf]; omega

set_option maxHeartbeats 1000000 in
theorem split12_any (n c : Nat) (hn : n ≤ 1048576) (hc : c ≤ 1048576) (P : Nat → Nat) (v : Value) (w : World) (hr : RdA .i64 w v n fun i => (P i : Int)) (hP : ∀ i, i < n → P i ≤ 1048576) :
    Calls Try.prog 117 #[v, .int .i64 c] w fun e w' => ∃ k : Nat, e = .returned (.int .i64 k) ∧ k ≤ n ∧ (∀ i, i < k → P i < c) ∧ (k < n → c ≤ P k) ∧ Below w.heap.size w w' := by
  obtain ⟨a, cap, rfl, g1, g2, g3⟩ := hr
  have G3 := Lib.hid g3
  have HP := Lib.hid hP
  clear g3 hP
  go_enter Try.func117, Try.ntmps117
  go_wp2_with fail
  go_loopw [5] (fun kv wr => ∃ k : Nat, k ≤ n ∧ kv = .int .i64 k ∧ Hid (∀ i, i < k → P i < c) ∧ Below w.heap.size w wr) (fun kv _ => n - (intOf kv).toNat)
  case atStart => exact ⟨0, by omega, rfl, fun i hi => absurd hi (by omega), Below.refl _ _⟩
  case round =>
    obtain ⟨k, k1, rfl, hlt, hb⟩ := hrel
    by_cases hk : k < n
    · obtain ⟨b, o, rfl, hcell⟩ := G3.out (by omega)
      have c1 := cell_stays hb (hcell k hk)
      have hp := HP.out k hk
      clear hcell
      obtain ⟨q, hq⟩ : ∃ q, q = P k := ⟨_, rfl⟩
      rw [← hq] at c1 hp
      have HQ := Lib.hid hq
      clear hq
      by_cases hlc : q < c
      · go_wp2_with fail
        go_roundw
        case rel => exact ⟨k + 1, by omega, by go_num, fun i hi => by
          by_cases e : i = k
          · rw [e, ← HQ.out]; exact hlc
          · exact hlt.out i (by omega), by simpa using hb⟩
        case measure => simp [intOf]; omega
      · go_wp2_with fail
        go_ret
        exact ⟨k, rfl, k1, hlt.out, fun _ => by rw [← HQ.out]; omega, by simpa using hb⟩
    · go_wp2_with fail
      go_ret
      exact ⟨k, rfl, k1, hlt.out, fun h => absurd h hk, by simpa using hb⟩

theorem horner16 (r y p B : Int) : ((r * B + y / 65536) % p * 65536 + y % 65536) % p = (r * (B * 65536) + y) % p := by
  have h : r * (B * 65536) + y = (r * B + y / 65536) * 65536 + y % 65536 := by
    rw [← Int.mul_assoc, Int.add_mul]; omega
  rw [h, Int.add_emod, Int.mul_emod, Int.emod_emod_of_dvd _ (Int.dvd_refl p), ← Int.mul_emod, ← Int.add_emod]

/-- the residue while a word is gone through -/
def resK (r x p : Int) (k : Nat) : Int := (r * 65536 ^ k + x / 65536 ^ (4 - k)) % p

theorem resK_step (r x p : Int) (k : Nat) (hk : k < 4) : (resK r x p k * 65536 + x / 65536 ^ (3 - k) % 65536) % p = resK r x p (k + 1) := by
  unfold resK
  rw [show 4 - k = (3 - k) + 1 by omega, Int.pow_succ, ← Int.ediv_ediv_of_nonneg (Int.pow_nonneg (by omega)), horner16, show 4 - (k + 1) = 3 - k by omega, Int.pow_succ]

theorem natFrom_top (f : Nat → Int) (j n : Nat) (h : j < n) : natFrom f j (n - j) = f j + 18446744073709551616 * natFrom f (j + 1) (n - (j + 1)) := by
  rw [show n - j = (n - (j + 1)) + 1 by omega]; rfl

set_option maxHeartbeats 1000000 in
theorem Residue12_any (p : Int) (h1 : 1 ≤ p) (h2 : p < 2147483648) (v : Value) (r : Raw) (w : World) (hr : RdI w v r) :
    Calls Try.prog 119 #[v, .int .i64 p] w fun e w' => e = .returned (.int .i64 (resid r p)) ∧ Below w.heap.size w w' := by
  obtain ⟨m, rfl, ⟨a, cap, rfl, g1, g2, g3⟩, g4⟩ := hr
  obtain ⟨neg, n, f⟩ := r
  simp only at g1 g2 g3 g4 ⊢
  have n0 : 0 ≤ (n : Int) := by omega
  have n1 : (n : Int) ≤ 17592186044416 := by omega
  have G3 := Lib.hid g3
  have G4 := Lib.hid g4
  clear g3 g4 g1 g2
  go_enter Try.func119, Try.ntmps119
  go_wp2_with fail
  go_loopw [5, 6] (fun r i wr => ∃ m : Nat, m ≤ n ∧ r = .int .i64 (natFrom f m (n - m) % p) ∧ i = .int .i64 ((m : Int) - 1) ∧ Below w.heap.size w wr ∧
      wr.cell? ⟨w.heap.size, 0, none⟩ = some (.bool neg) ∧ wr.cell? ⟨w.heap.size, 1, none⟩ = some (.slice a n cap))
    (fun _ i _ => (intOf i + 1).toNat)
  case atStart => exact ⟨n, Nat.le_refl _, by rw [Nat.sub_self]; rfl, rfl, (Below.refl _ _).alloc (Nat.le_refl _) _, by go_simp, by go_simp⟩
  case round =>
    obtain ⟨m, hm, rfl, rfl, hb, x0, x1⟩ := hrel
    have p0 := Int.emod_nonneg (natFrom f m (n - m)) (show p ≠ 0 by omega)
    have p1 := Int.emod_lt_of_pos (natFrom f m (n - m)) (show 0 < p by omega)
    obtain ⟨q, hq⟩ : ∃ q, q = natFrom f m (n - m) % p := ⟨_, rfl⟩
    rw [← hq] at p0 p1 ⊢
    have HQ := Lib.hid hq
    clear hq
    rcases m with _ | j
    · cases neg
      · go_wp2_with fail
        go_ret
        exact ⟨ret_i64 (by show q = (if false = true ∧ _ then _ else _); rw [if_neg (by simp)]; exact HQ.out), hb⟩
      · by_cases hz : 0 < q
        · go_wp2_with fail
          go_ret
          exact ⟨ret_i64 (by show p - q = (if true = true ∧ 0 < Raw.mag ⟨true, n, f⟩ % p then p - Raw.mag ⟨true, n, f⟩ % p else _); rw [show Raw.mag ⟨true, n, f⟩ % p = q from HQ.out.symm, if_pos ⟨rfl, hz⟩]), hb⟩
        · go_wp2_with fail
          go_ret
          exact ⟨ret_i64 (by show q = (if true = true ∧ 0 < Raw.mag ⟨true, n, f⟩ % p then _ else Raw.mag ⟨true, n, f⟩ % p); rw [show Raw.mag ⟨true, n, f⟩ % p = q from HQ.out.symm, if_neg (by omega)]), hb⟩
    · obtain ⟨b, o, ha, hc⟩ := G3.out (by omega)
      subst ha
      have hj : j < n := by omega
      have c1 := cell_stays hb (hc j hj)
      obtain ⟨c2, c3⟩ := G4.out j hj
      clear hc
      obtain ⟨x, hx⟩ : ∃ x, x = f j := ⟨_, rfl⟩
      rw [← hx] at c1 c2 c3
      have HX := Lib.hid hx
      have hr0 : resK q x p 0 = q := by unfold resK; rw [Int.pow_zero, Int.mul_one, show x / 65536 ^ 4 = 0 by omega, Int.add_zero]; exact Int.emod_eq_of_lt p0 p1
      have HR0 := Lib.hid hr0
      clear hx hr0
      go_wp2_with fail
      go_loop [5, 7] (fun rv kv => ∃ k : Nat, k ≤ 4 ∧ kv = .int .i64 k ∧ rv = .int .i64 (resK q x p k)) (fun _ kv => 4 - (intOf kv).toNat)
      case atStart => exact ⟨0, by omega, rfl, by rw [HR0.out]⟩
      case round =>
        obtain ⟨k, k1, rfl, rfl⟩ := hrel
        have e0 : 0 ≤ resK q x p k := Int.emod_nonneg _ (show p ≠ 0 by omega)
        have e1 : resK q x p k < p := Int.emod_lt_of_pos _ (show 0 < p by omega)
        by_cases hk : k < 4
        · have hst := resK_step q x p k hk
          generalize resK q x p k = y at *
          have HST := Lib.hid hst
          clear hst
          rcases (by omega : k = 0 ∨ k = 1 ∨ k = 2 ∨ k = 3) with rfl | rfl | rfl | rfl
          · go_wp2_with fail
            go_round
            case rel => exact ⟨1, by omega, by go_num, by rw [← show _ = resK q x p 1 from HST.out]; rfl⟩
            case measure => simp [intOf]
          · go_wp2_with fail
            go_round
            case rel => exact ⟨2, by omega, by go_num, by rw [← show _ = resK q x p 2 from HST.out]; rfl⟩
            case measure => simp [intOf]
          · go_wp2_with fail
            go_round
            case rel => exact ⟨3, by omega, by go_num, by rw [← show _ = resK q x p 3 from HST.out]; simp⟩
            case measure => simp [intOf]
          · go_wp2_with fail
            go_round
            case rel => exact ⟨4, by omega, by go_num, by rw [← show _ = resK q x p 4 from HST.out]; simp⟩
            case measure => simp [intOf]
        · obtain rfl : k = 4 := by omega
          go_wp2_with fail
          go_roundw
          case rel =>
            refine ⟨j, by omega, ?_, by go_num, hb, x0, x1⟩
            rw [natFrom_top f j n hj, ← HX.out, ← horner, HQ.out]
            show Value.int .i64 ((_ * 65536 ^ 4 + x / 65536 ^ 0) % p) = _
            simp
          case measure => simp [intOf]

end Go.Proofs.Ytdlpemmoobbgnaa

namespace Go.Proofs.Ytdlpemmoobbgnaa
open Go.RowKit

theorem less_bd (p z y : Int) (h2 : p < 2147483648) (z0 : 0 ≤ z) (z1 : z < p) (y0 : 0 ≤ y) (y1 : y < p) : 0 ≤ (p - z) * y ∧ (p - z) * y ≤ 4611686018427387904 :=
  ⟨Int.mul_nonneg (by omega) y0, by have := Int.mul_le_mul (show p - z ≤ 2147483648 by omega) (show y ≤ 2147483648 by omega) y0 (by omega); omega⟩

set_option maxHeartbeats 1000000 in
theorem less12_any (p q : Int) (h1 : 1 ≤ p) (h2 : p < 2147483648) (q0 : 0 ≤ q) (q1 : q < 2147483648) (b o cap b' o' cap' n : Nat) (f g : Nat → Int) (hn : n ≤ 1048576) (hbb : b ≠ b')
    (hf : ∀ i, i < n → 0 ≤ f i ∧ f i < p) (hg : ∀ i, i < n → 0 ≤ g i ∧ g i < p) (w : World) (hr : RowAt .i64 w b o n f) (hr' : RowAt .i64 w b' o' n g) :
    Calls Try.prog 120 #[.slice (some ⟨b, o, none⟩) n cap, .slice (some ⟨b', o', none⟩) n cap', .int .i64 q, .int .i64 p] w fun e w' =>
      e = .returned (.tuple #[]) ∧ RowAt .i64 w' b o n (fun i => (f i + (p - q % p) * g i) % p) ∧ w.grownBy w' (some b) := by
  have HF := Lib.hid hf
  have HG := Lib.hid hg
  obtain ⟨t1, t2⟩ := md.mod_bd q p (by omega)
  clear hf hg
  go_enter Try.func120, Try.ntmps120
  go_wp2_with fail
  go_loopw [8] (fun i wr => ∃ j : Nat, j ≤ n ∧ i = .int .i64 j ∧ RowAt .i64 wr b o n (fun i => if i < j then (f i + (p - q % p) * g i) % p else f i) ∧ RowAt .i64 wr b' o' n g ∧ w.grownBy wr (some b))
    (fun i _ => n - (intOf i).toNat)
  case atStart => exact ⟨0, by omega, rfl, hr.congr fun i _ => by rw [if_neg (by omega)], hr', gb_refl _ _⟩
  case round =>
    obtain ⟨j, j1, rfl, hj, hj', hg⟩ := hrel
    by_cases hjn : j < n
    · obtain ⟨f0, f1⟩ := HF.out j hjn
      obtain ⟨g0, g1⟩ := HG.out j hjn
      obtain ⟨y, hy⟩ : ∃ y, y = f j := ⟨_, rfl⟩
      obtain ⟨z, hz⟩ : ∃ z, z = g j := ⟨_, rfl⟩
      obtain ⟨c1, c2⟩ := hj.get (i := j) (by omega) (x := y) ((if_neg (by omega)).trans hy.symm)
      obtain ⟨d1, d2⟩ := hj'.get hjn (x := z) hz.symm
      rw [← hy] at f0 f1
      rw [← hz] at g0 g1
      obtain ⟨r1, r2⟩ := less_bd p (q % p) z h2 t1 t2 g0 g1
      have HY := Lib.hid hy
      have HZ := Lib.hid hz
      have HJ := Lib.hid hj
      have HJ' := Lib.hid hj'
      clear hy hj hz hj'
      go_wp2_with fail
      go_region
      go_wp2_with fail
      go_roundw
      case rel =>
        refine ⟨j + 1, by omega, by go_num, ((HJ.out.set hjn _).block rfl).congr fun i hi => ?_, (HJ'.out.other hbb _).block rfl, gb_trans hg (gb_trans (gb_set _ _ _) (gb_drew _ _))⟩
        by_cases e : i = j
        · rw [if_pos e, if_pos (by omega), e, HY.out, HZ.out]
        · rw [if_neg e]
          by_cases e2 : i < j
          · rw [if_pos e2, if_pos (by omega)]
          · rw [if_neg e2, if_neg (by omega)]
      case measure => simp [intOf]; omega
    · have HJ := Lib.hid hj
      clear hj
      go_wp2_with fail
      go_end0
      exact ⟨rfl, HJ.out.congr fun i hi => if_pos (by omega), hg⟩
end Go.Proofs.Ytdlpemmoobbgnaa

namespace Go.Proofs.Ytdlpemmoobbgnaa
open laF

/-- row r less so many times row i that the column c's entry is the rest -/
def lsF (p : Int) (r i c : Nat) (G : Nat → Nat → Int) : Nat → Nat → Int := fun l j => if l = r then (G r j + (p - G r c / G i c % p) * G i j) % p else G l j

theorem euc {p x y : Int} (x0 : 0 ≤ x) (x1 : x < p) (y0 : 0 < y) (y1 : y < p) : 0 ≤ x / y ∧ x / y < p ∧ (x + (p - x / y % p) * y) % p = x % y := by
  have h1 : 0 ≤ x / y := Int.ediv_nonneg x0 (by omega)
  have h2 : x / y ≤ x := Int.ediv_le_self y x0
  have h3 : x / y % p = x / y := Int.emod_eq_of_lt h1 (by omega)
  have h4 := Int.mul_ediv_add_emod x y
  have h5 := Int.emod_nonneg x (show y ≠ 0 by omega)
  have h6 := Int.emod_lt_of_pos x y0
  refine ⟨h1, by omega, ?_⟩
  rw [h3, show x + (p - x / y) * y = x % y + p * y by rw [Int.sub_mul]; have : x / y * y = y * (x / y) := Int.mul_comm _ _; omega, Int.add_mul_emod_self_left]
  exact Int.emod_eq_of_lt h5 (by omega)

section
variable {q : Nat} [NeZero q] {R W c r i : Nat}

structure StI (q : Nat) [NeZero q] (R W c r i : Nat) (P : Nat → Nat) (G0 G : Nat → Nat → Int) (s : Int) : Prop where
  res : Res q R W G
  re : RE R W (phG q G0) (phG q G) (ph s)
  sgn : s = 1 ∨ s = -1
  le : r ≤ R
  lt : ∀ k, k < r → P k < c
  mono : ∀ k l, k < l → l < r → P k < P l
  lead : ∀ k j, k < r → j < P k → G k j = 0
  piv : ∀ k, k < r → G k (P k) ≠ 0
  rest : ∀ k j, r ≤ k → k < R → j < c → G k j = 0
  done : ∀ k, r < k → k < i → G k c = 0

variable {P : Nat → Nat} {G0 G : Nat → Nat → Int} {s : Int}

theorem StI.start (h : Res q R W G0) : StI q R W 0 0 1 P G0 G0 1 :=
  ⟨h, by rw [ph_one]; exact RE.refl fun _ _ _ _ => rfl, Or.inl rfl, Nat.zero_le _, fun k hk => absurd hk (by omega), fun k l _ hl => absurd hl (by omega), fun k j hk => absurd hk (by omega), fun k hk => absurd hk (by omega), fun k j _ _ hj => absurd hj (by omega), fun k h1 h2 => absurd h1 (by omega)⟩

theorem sx_mid {r i k : Nat} (h1 : k ≠ r) (h2 : k ≠ i) : sw r i k = k := by unfold sw; rw [if_neg h1, if_neg h2]
theorem sx_snd {r i : Nat} (h : r ≠ i) : sw r i i = r := by unfold sw; rw [if_neg (fun e => h e.symm), if_pos rfl]

/-- one of Euclid's steps and the exchange -/
theorem StI.step (h : StI q R W c r i P G0 G s) (hri : r < i) (hi : i < R) (hc : c < W) (hy : G i c ≠ 0) :
    StI q R W c r i P G0 (swF r i (lsF q r i c G)) (-s) ∧ swF r i (lsF q r i c G) i c = G r c % G i c := by
  obtain ⟨x0, x1⟩ := h.res r c (by omega) hc
  obtain ⟨y0, y1⟩ := h.res i c hi hc
  obtain ⟨e0, e1, e2⟩ := euc x0 x1 (show 0 < G i c by omega) y1
  have hq : (q : Int) ≠ 0 := by omega
  have hl : ∀ k j, k ≠ r → lsF q r i c G k j = G k j := fun k j hk => by unfold lsF; rw [if_neg hk]
  have hlr : ∀ j, lsF q r i c G r j = (G r j + (q - G r c / G i c % q) * G i j) % q := fun j => by unfold lsF; rw [if_pos rfl]
  refine ⟨⟨fun l j hlR hj => ?_, ?_, by rcases h.sgn with e | e <;> rw [e] <;> simp, h.le, h.lt, h.mono, fun k j hk hj => ?_, fun k hk => ?_, fun k j hk hkR hj => ?_, fun k h1 h2 => ?_⟩, ?_⟩
  · show 0 ≤ lsF q r i c G (sw r i l) j ∧ _
    have hs : sw r i l < R := sw_lt (by omega) hi hlR
    show 0 ≤ lsF q r i c G (sw r i l) j ∧ lsF q r i c G (sw r i l) j < q
    by_cases e : sw r i l = r
    · rw [e, hlr]; exact ⟨Int.emod_nonneg _ hq, Int.emod_lt_of_pos _ (by omega)⟩
    · rw [hl _ _ e]; exact h.res _ _ hs hj
  · rw [ph_neg]
    refine (RE.swap (i := r) (r := i) (by omega) hi (by omega) (RE.elim (r := i) (fun l => if l = r then ph (G r c / G i c) else 0) hi h.re)).rows fun l j hlR hj => ?_
    show (if sx r i l = i then ph (G i j) else ph (G (sx r i l) j) - (if sx r i l = r then ph (G r c / G i c) else 0) * ph (G i j)) = ph (lsF q r i c G (sx r i l) j)
    generalize sx r i l = k
    by_cases e : k = r
    · rw [if_neg (by omega), if_pos e, e, hlr, ph_mod, ph_add, ph_mul, ph_sub_p, ph_mod]; grind
    · rw [hl _ _ e, if_neg e]
      by_cases e' : k = i
      · rw [if_pos e', e']
      · rw [if_neg e']; grind
  · show lsF q r i c G (sw r i k) j = 0
    rw [sx_mid (by omega) (by omega), hl _ _ (by omega)]; exact h.lead k j hk hj
  · show lsF q r i c G (sw r i k) (P k) ≠ 0
    rw [sx_mid (by omega) (by omega), hl _ _ (by omega)]; exact h.piv k hk
  · show lsF q r i c G (sw r i k) j = 0
    have hs : r ≤ sw r i k ∧ sw r i k < R := by unfold sw; (repeat' split) <;> omega
    by_cases e : sw r i k = r
    · rw [e, hlr, h.rest r j (Nat.le_refl _) (by omega) hj, h.rest i j (by omega) hi hj]; simp
    · rw [hl _ _ e]; exact h.rest _ _ hs.1 hs.2 hj
  · show lsF q r i c G (sw r i k) c = 0
    rw [sx_mid (by omega) (by omega), hl _ _ (by omega)]; exact h.done k h1 h2
  · show lsF q r i c G (sw r i i) c = _
    rw [sx_snd (by omega), hlr]; exact e2

/-- the row's entry is 0: the next row -/
theorem StI.next (h : StI q R W c r i P G0 G s) (hz : G i c = 0) : StI q R W c r (i + 1) P G0 G s :=
  { h with
    done := fun k h1 h2 => by
      by_cases e : k = i
      · rw [e]; exact hz
      · exact h.done k h1 (by omega) }
/-- a pivot -/
theorem StI.pivot (h : StI q R W c r R P G0 G s) (hr : r < R) (hne : G r c ≠ 0) : StI q R W (c + 1) (r + 1) (r + 2) (fun k => if k = r then c else P k) G0 G s :=
  { h with
    le := hr
    lt := fun k hk => by
      by_cases e : k = r
      · simp only [if_pos e]; omega
      · simp only [if_neg e]; have := h.lt k (by omega); omega
    mono := fun k l h1 h2 => by
      by_cases e : l = r
      · simp only [if_pos e, if_neg (show k ≠ r by omega)]; exact h.lt k (by omega)
      · simp only [if_neg e, if_neg (show k ≠ r by omega)]; exact h.mono k l h1 (by omega)
    lead := fun k j hk hj => by
      by_cases e : k = r
      · simp only [if_pos e] at hj; rw [e]; exact h.rest r j (Nat.le_refl _) hr hj
      · simp only [if_neg e] at hj; exact h.lead k j (by omega) hj
    piv := fun k hk => by
      by_cases e : k = r
      · simp only [if_pos e]; rw [e]; exact hne
      · simp only [if_neg e]; exact h.piv k (by omega)
    rest := fun k j hk hkR hj => by
      by_cases e : j = c
      · rw [e]; exact h.done k (by omega) hkR
      · exact h.rest k j (by omega) hkR (by omega)
    done := fun k h1 h2 => absurd h1 (by omega) }
/-- no pivot in the column -/
theorem StI.none (h : StI q R W c r R P G0 G s) (hz : r < R → G r c = 0) : StI q R W (c + 1) r (r + 1) P G0 G s :=
  { h with
    lt := fun k hk => by have := h.lt k hk; omega
    rest := fun k j hk hkR hj => by
      by_cases e : j = c
      · rw [e]
        by_cases e' : k = r
        · rw [e']; exact hz (by omega)
        · exact h.done k (by omega) hkR
      · exact h.rest k j hk hkR (by omega)
    done := fun k h1 h2 => absurd h1 (by omega) }
/-- as many pivots as rows: the other columns hold none -/
theorem StI.full (h : StI q R W c r i P G0 G s) (hr : r = R) {d : Nat} (hd : c ≤ d) : StI q R W d r (r + 1) P G0 G s :=
  { h with
    lt := fun k hk => by have := h.lt k hk; omega
    rest := fun k j hk hkR hj => absurd hk (by omega)
    done := fun k h1 h2 => absurd h1 (by omega) }
end
end Go.Proofs.Ytdlpemmoobbgnaa

namespace Go.Proofs.Ytdlpemmoobbgnaa
open Go.RowKit

def pl (P : Nat → Nat) (n : Nat) : List Value := (List.range n).map fun k => Value.int .i64 (P k : Int)
theorem pl_snoc (P : Nat → Nat) (r c : Nat) : pl (fun k => if k = r then c else P k) (r + 1) = pl P r ++ [.int .i64 (c : Int)] := by
  unfold pl
  rw [List.range_succ, List.map_append]
  congr 1
  · refine List.map_congr_left fun k hk => ?_
    rw [List.mem_range] at hk
    simp only [if_neg (show k ≠ r by omega)]
  · simp

section
variable {k : IntKind} {m n gb go base B0 e size r i : Nat} {w wr w2 w3 w1 : World} {B O C : Nat → Nat} {G : Nat → Nat → Int} {v : Value} {nn : Nat} {xs : List Value} {f : Nat → Int} {X : Obj}
theorem row_relK (hi : i < m) (hgr : GridAt k w2 base gb go m n B O C G) (HB : ∀ i, i < m → B i < B0) (hown : w2.ownsRow B0 e size v nn xs) (hbel : Below base w w2) (hsz : B0 ≤ w2.heap.size)
    (hf : RowAt k w3 (B i) (O i) n f) (hg : w2.grownBy w3 (some (B i))) :
    GridAt k w3 base gb go m n B O C (fun l c => if l = i then f c else G l c) ∧ w3.ownsRow B0 e size v nn xs ∧ Below base w w3 ∧ B0 ≤ w3.heap.size := by
  have hlt := hgr.lt i hi
  have ho := hgr.own i hi
  exact ⟨hgr.upd hi hf hg, hown.kept hg (own_block hown (HB i hi)), hbel.grown hg (by omega) (fun k hk => by injection hk with hk; omega), Nat.le_trans hsz hg.size⟩
theorem app_relK (hB0 : base ≤ B0) (hgb : gb < B0) (hgr : GridAt k wr base gb go m n B O C G) (HB : ∀ i, i < m → B i < B0) (hown : wr.ownsRow B0 e size v nn xs) (hbel : Below base w wr) (hsz : B0 ≤ wr.heap.size)
    (hg : (wr.alloc X).grownBy w1 v.ownBlock) : GridAt k w1 base gb go m n B O C G ∧ Below base w w1 ∧ B0 ≤ w1.heap.size := by
  have hb2 := hbel.alloc (by omega) X
  have hgr2 := hgr.grown (World.grownBy_alloc wr X none) (by simp) (fun _ _ => by simp)
  have hlt := fun k hk => (hown.lt k hk).1
  have hz := hg.size
  have hz2 : (wr.alloc X).heap.size = wr.heap.size + 1 := by simp
  refine ⟨hgr2.grown hg ?_ (fun i hi => ?_), hb2.grown hg (by omega) (fun k hk => Nat.le_trans hB0 (hlt k hk)), by omega⟩
  · intro e; have := hlt gb e.symm; omega
  · intro e; have := hlt (B i) e.symm; have := HB i hi; omega
end

/-- what stairs keeps in memory -/
structure SRel (q : Nat) [NeZero q] (w wr : World) (base gb go R W c r i : Nat) (P : Nat → Nat) (G0 G : Nat → Nat → Int) (s : Int) (pv : Value) (B O C : Nat → Nat) : Prop where
  st : StI q R W c r i P G0 G s
  low : ∀ l, l < R → B l < w.heap.size
  grid : GridAt .i64 wr base gb go R W B O C G
  own : wr.ownsRow w.heap.size 3 1 pv r (pl P r)
  below : Below base w wr
  size : w.heap.size ≤ wr.heap.size

section
variable {q : Nat} [NeZero q] {w wr w3 : World} {base gb go R W c r i : Nat} {P : Nat → Nat} {G0 G : Nat → Nat → Int} {s : Int} {pv : Value} {B O C : Nat → Nat}
theorem SRel.drew (h : SRel q w wr base gb go R W c r i P G0 G s pv B O C) : SRel q w wr.drew base gb go R W c r i P G0 G s pv B O C :=
  ⟨h.st, h.low, h.grid.drew, h.own.drew, h.below.drew, h.size⟩
/-- behind 'less' -/
theorem SRel.less (h : SRel q w wr base gb go R W c r i P G0 G s pv B O C) (hr : r < R)
    (hf : RowAt .i64 w3 (B r) (O r) W (fun j => (G r j + ((q : Int) - G r c / G i c % q) * G i j) % q)) (hg : wr.grownBy w3 (some (B r))) :
    GridAt .i64 w3 base gb go R W B O C (lsF q r i c G) ∧ w3.ownsRow w.heap.size 3 1 pv r (pl P r) ∧ Below base w w3 ∧ w.heap.size ≤ w3.heap.size :=
  row_relK hr h.grid h.low h.own h.below h.size hf hg
/-- behind the exchange -/
theorem SRel.swap (h : SRel q w wr base gb go R W c r i P G0 G s pv B O C) (hri : r < i) (hi : i < R) (hc : c < W) (hy : G i c ≠ 0) (hgb : gb < w.heap.size)
    (hw : GridAt .i64 w3 base gb go R W B O C (lsF q r i c G) ∧ w3.ownsRow w.heap.size 3 1 pv r (pl P r) ∧ Below base w w3 ∧ w.heap.size ≤ w3.heap.size) :
    SRel q w ((w3.setCell ⟨gb, go + r, none⟩ (.slice (some ⟨B i, O i, none⟩) W (C i))).setCell ⟨gb, go + i, none⟩ (.slice (some ⟨B r, O r, none⟩) W (C r))) base gb go R W c r i P G0 (swF r i (lsF q r i c G)) (-s) pv
      (fun l => B (sw r i l)) (fun l => O (sw r i l)) (fun l => C (sw r i l)) := by
  obtain ⟨g1, g2, g3, g4⟩ := hw
  have hg : w3.grownBy ((w3.setCell ⟨gb, go + r, none⟩ (.slice (some ⟨B i, O i, none⟩) W (C i))).setCell ⟨gb, go + i, none⟩ (.slice (some ⟨B r, O r, none⟩) W (C r))) (some gb) := gb_trans (gb_set _ _ _) (gb_set _ _ _)
  exact ⟨(h.st.step hri hi hc hy).1, fun l hl => h.low _ (sw_lt (by omega) hi hl), g1.swap (by omega) hi rfl, g2.kept hg (own_block g2 hgb),
    (g3.setCell (p := ⟨gb, go + r, none⟩) g1.ownG _).setCell (p := ⟨gb, go + i, none⟩) g1.ownG _, Nat.le_trans g4 hg.size⟩
theorem SRel.next (h : SRel q w wr base gb go R W c r i P G0 G s pv B O C) (hz : G i c = 0) : SRel q w wr base gb go R W c r (i + 1) P G0 G s pv B O C :=
  { h with st := h.st.next hz }
theorem SRel.none (h : SRel q w wr base gb go R W c r R P G0 G s pv B O C) (hz : r < R → G r c = 0) : SRel q w wr base gb go R W (c + 1) r (r + 1) P G0 G s pv B O C :=
  { h with st := h.st.none hz }
theorem SRel.full (h : SRel q w wr base gb go R W c r i P G0 G s pv B O C) (hr : r = R) {d : Nat} (hd : c ≤ d) : SRel q w wr base gb go R W d r (r + 1) P G0 G s pv B O C :=
  { h with st := h.st.full hr hd }
theorem SRel.pivot {w1 : World} {pv' : Value} {X : Obj} (h : SRel q w wr base gb go R W c r R P G0 G s pv B O C) (hr : r < R) (hne : G r c ≠ 0) (hbase : base ≤ w.heap.size) (hgb : gb < w.heap.size)
    (ho : w1.ownsRow w.heap.size 3 1 pv' (r + 1) (pl P r ++ [.int .i64 (c : Int)])) (hg : (wr.alloc X).grownBy w1 pv.ownBlock) :
    SRel q w w1 base gb go R W (c + 1) (r + 1) (r + 2) (fun k => if k = r then c else P k) G0 G s pv' B O C := by
  obtain ⟨g1, g2, g3⟩ := app_relK hbase hgb h.grid h.low h.own h.below h.size hg
  exact ⟨h.st.pivot hr hne, h.low, g1, by rw [pl_snoc]; exact ho, g2, g3⟩
end
end Go.Proofs.Ytdlpemmoobbgnaa

namespace Go.Proofs.Ytdlpemmoobbgnaa
open Go.RowKit

set_option maxHeartbeats 4000000 in
set_option maxRecDepth 100000 in
theorem stairs12_any (q : Nat) [NeZero q] (p : Int) (hqp : (q : Int) = p) (h1 : 1 ≤ p) (h2 : p < 2147483648) (R W n cap base gb go : Nat) (B O C : Nat → Nat) (G0 : Nat → Nat → Int) (hR : R ≤ 1048576) (hW : W ≤ 1048576) (hn : n ≤ W)
    (hres : Res q R W G0) (w : World) (hg : GridAt .i64 w base gb go R W B O C G0) (hbase : base ≤ w.heap.size) :
    Calls Try.prog 114 #[.slice (some ⟨gb, go, none⟩) R cap, .int .i64 n, .int .i64 p] w fun e w' =>
      ∃ r P G s pv B' O' C', e = .returned (.tuple #[pv, .int .i64 s]) ∧ SRel q w w' base gb go R W n r (r + 1) P G0 G s pv B' O' C' := by
  obtain ⟨i0, hi, hz0, hz1, hz2⟩ := info_parts infoInt
  have HI := Lib.hid hi
  have HZ0 := Lib.hid hz0
  have HZ1 := Lib.hid hz1
  have HZ2 := Lib.hid hz2
  have hgb : 0 < R → gb < w.heap.size := fun h0 => hg.ltG h0
  have HQP := Lib.hid hqp
  have hst : SRel q w w base gb go R W 0 0 1 (fun _ => 0) G0 G0 1 (.slice none 0 0) B O C :=
    ⟨StI.start hres, hg.lt, hg, World.ownsRow_nil w w.heap.size 3 1, Below.refl _ _, Nat.le_refl _⟩
  have HST := Lib.hid hst
  clear hi hz0 hz1 hz2 hres hg hqp hst
  go_enter Try.func114, Try.ntmps114
  go_wp2_with fail
  go_loopw [8, 9, 10] (fun pv sv cv wr => ∃ (c r : Nat) (P : Nat → Nat) (G : Nat → Nat → Int) (s : Int) (B O C : Nat → Nat), c ≤ n ∧ cv = .int .i64 c ∧ sv = .int .i64 s ∧ SRel q w wr base gb go R W c r (r + 1) P G0 G s pv B O C)
    (fun _ _ cv _ => n - (intOf cv).toNat)
  case atStart => exact ⟨0, 0, _, G0, 1, B, O, C, by omega, rfl, rfl, HST.out⟩
  case round =>
    clear HST
    obtain ⟨c, r, P, G, s, B, O, C, c1, rfl, rfl, hrel⟩ := hrel
    have hrR := hrel.st.le
    have hsg := hrel.st.sgn
    obtain ⟨pa, pc, rfl⟩ := own_slice hrel.own
    have HR := Lib.hid hrel
    clear hrel
    by_cases hc : c < n
    · by_cases hr : r < R
      · have hgb := hgb (by omega)
        have hrb : ((r : Int) == R) = false := beq_eq_false_iff_ne.2 (by omega)
        go_wp2_with fail
        go_loopw [9, 12] (fun sv iv wr => ∃ (i : Nat) (G : Nat → Nat → Int) (s : Int) (B O C : Nat → Nat), r < i ∧ i ≤ R ∧ iv = .int .i64 i ∧ sv = .int .i64 s ∧ (s = 1 ∨ s = -1) ∧ SRel q w wr base gb go R W c r i P G0 G s (.slice pa r pc) B O C)
          (fun _ iv _ => R - (intOf iv).toNat)
        case atStart => exact ⟨r + 1, G, s, B, O, C, by omega, by omega, by go_num, rfl, hsg, HR.out⟩
        case round =>
          clear HR hsg
          obtain ⟨i, G, s, B, O, C, ri, iR, rfl, rfl, hsg, hrel⟩ := hrel
          have HR := Lib.hid hrel
          clear hrel
          by_cases hi : i < R
          · go_wp2_with fail
            go_loopg [9] q (fun gk sv wr => ∃ (G : Nat → Nat → Int) (s : Int) (B O C : Nat → Nat), sv = .int .i64 s ∧ (s = 1 ∨ s = -1) ∧ (G i c).toNat ≤ gk ∧ SRel q w wr base gb go R W c r i P G0 G s (.slice pa r pc) B O C)
            case atStart => exact ⟨G, s, B, O, C, rfl, hsg, by have := HR.out.st.res i c hi (by omega); omega, HR.out⟩
            case round =>
              clear HR hsg
              obtain ⟨G, s, B, O, C, rfl, hsg, hgk, hrel⟩ := hrel
              obtain ⟨y0, y1⟩ := hrel.st.res i c hi (by omega)
              obtain ⟨x0, x1⟩ := hrel.st.res r c hr (by omega)
              have hap : B r ≠ B i := fun e => by have := hrel.grid.apart r i hr hi e; omega
              obtain ⟨y, hy⟩ : ∃ y, y = G i c := ⟨_, rfl⟩
              obtain ⟨x, hx⟩ : ∃ x, x = G r c := ⟨_, rfl⟩
              obtain ⟨k1, k2⟩ := hrel.grid.cells i hi
              obtain ⟨k3, k4⟩ := hrel.grid.cells r hr
              obtain ⟨k5, -⟩ := (hrel.grid.rows i hi).get (show c < W by omega) hy.symm
              obtain ⟨k6, -⟩ := (hrel.grid.rows r hr).get (show c < W by omega) hx.symm
              have hcap := hrel.grid.caps i hi
              have hcap' := hrel.grid.caps r hr
              rw [← hy] at y0 y1 hgk
              rw [← hx] at x0 x1
              rw [HQP.out] at y1 x1
              have HR := Lib.hid hrel
              have HY := Lib.hid hy
              have HX := Lib.hid hx
              have HAP := Lib.hid hap
              clear hrel hy hx hap
              have g1 : (0 : Int) ≤ (i : Int) := by omega
              have g2 : (i : Int) < (R : Int) := by omega
              have g3 : (0 : Int) ≤ (r : Int) := by omega
              have g4 : (r : Int) < (R : Int) := by omega
              have g5 : (0 : Int) ≤ (c : Int) := by omega
              have g6 : (c : Int) < (W : Int) := by omega
              by_cases hz : y = 0
              · have hzb : (y != 0) = false := by rw [bne_eq_false_iff_eq]; exact hz
                have HZ := Lib.hid (show G i c = 0 by rw [← HY.out]; exact hz)
                clear hz
                go_wp2_with fail
                go_roundw
                case rel => exact ⟨i + 1, G, s, B, O, C, by omega, by omega, by go_num, rfl, hsg, HR.out.next HZ.out⟩
                case measure => simp [intOf]; omega
              · have hzb : (y != 0) = true := by rw [bne_iff_ne]; exact hz
                obtain ⟨q0, q1, q2⟩ := euc x0 x1 (show 0 < y by omega) y1
                have HZ := Lib.hid (show G i c ≠ 0 by rw [← HY.out]; exact hz)
                have hzy : y ≠ 0 := hz
                have hlt := Int.emod_lt_of_pos x (show 0 < y by omega)
                have hge := Int.emod_nonneg x hz
                have hq31 : x / y < 2147483648 := by omega
                clear hz q2
                go_wp2_with fail
                refine wp_region_still_tail 24 (by kernel_rfl) (by kernel_rfl) ?_
                simp only [List.take_succ_cons, List.take_zero, List.drop_succ_cons, List.drop_zero]
                repeat still_step
                refine wpStill_nil ?_
                change wpList _ _ _ _ _ wr.drew
                have hdr := HR.out.drew
                have k1 : wr.drew.cell? _ = _ := k1
                have k3 : wr.drew.cell? _ = _ := k3
                have HR := Lib.hid hdr
                clear hdr
                generalize wr.drew = w2 at HR k1 k3 k2 k4 k5 k6 ⊢
                have hls := less12_any p (x / y) h1 h2 q0 hq31 (B r) (O r) (C r) (B i) (O i) (C i) W (G r) (G i) hW HAP.out (fun j hj => by rw [← HQP.out]; exact HR.out.st.res r j hr hj) (fun j hj => by rw [← HQP.out]; exact HR.out.st.res i j hi hj) _ (HR.out.grid.rows r hr) (HR.out.grid.rows i hi)
                have HLS := Lib.hid hls
                clear hls k1 k2 k3 k4 k5 k6
                go_wp2_with fail
                refine HLS.out.mono ?_
                rintro e w3 ⟨rfl, hf3, hg3⟩
                rw [← HQP.out, HX.out, HY.out] at hf3
                have hw3 := HR.out.less hr hf3 hg3
                obtain ⟨k1, k2⟩ := hw3.1.cells i hi
                obtain ⟨k3, k4⟩ := hw3.1.cells r hr
                have k5 : (w3.setCell ⟨gb, go + r, none⟩ (.slice (some ⟨B i, O i, none⟩) W (C i))).cell? ⟨gb, go + i, none⟩ = some (.slice (some ⟨B i, O i, none⟩) W (C i)) := by
                  rw [World.cell?_setCell_other _ _ _ _ (by intro e'; injection e' with _ e3 _; omega)]; exact k1
                have hsw := HR.out.swap (w3 := w3) ri hi (by omega) HZ.out hgb hw3
                have hlt2 := (HR.out.st.step ri hi (by omega) HZ.out).2
                rw [← HX.out, ← HY.out] at hlt2
                have HSW := Lib.hid hsw
                have HLT := Lib.hid hlt2
                have hs0 : -1 ≤ s ∧ s ≤ 1 := by omega
                obtain ⟨hs1, hs2⟩ := hs0
                have hsg' : -s = 1 ∨ -s = -1 := by omega
                clear hf3 hg3 hw3 hsw hlt2 hsg
                go_wp2_with fail
                go_roundg ((x % y).toNat)
                case measure => omega
                case rel => exact ⟨_, -s, _, _, _, rfl, hsg', by rw [HLT.out]; exact Nat.le_refl _, HSW.out⟩
          · obtain rfl : i = R := by omega
            obtain ⟨x0, x1⟩ := HR.out.st.res r c hr (by omega)
            obtain ⟨x, hx⟩ : ∃ x, x = G r c := ⟨_, rfl⟩
            obtain ⟨k3, k4⟩ := HR.out.grid.cells r hr
            obtain ⟨k6, -⟩ := (HR.out.grid.rows r hr).get (show c < W by omega) hx.symm
            have hcap' := HR.out.grid.caps r hr
            have hown := HR.out.own
            have hsz := HR.out.size
            rw [← hx] at x0 x1
            have HX := Lib.hid hx
            clear hx
            have g3 : (0 : Int) ≤ (r : Int) := by omega
            have g4 : (r : Int) < (i : Int) := by omega
            have g5 : (0 : Int) ≤ (c : Int) := by omega
            have g6 : (c : Int) < (W : Int) := by omega
            by_cases hz : x = 0
            · have hzb : (x != 0) = false := by rw [bne_eq_false_iff_eq]; exact hz
              have HZ := Lib.hid (show G r c = 0 by rw [← HX.out]; exact hz)
              clear hz hown
              go_wp2_with fail
              go_roundw
              case rel => exact ⟨c + 1, r, P, G, s, B, O, C, by omega, by go_num, rfl, HR.out.none fun _ => HZ.out⟩
              case measure => simp [intOf]; omega
            · have hzb : (x != 0) = true := by rw [bne_iff_ne]; exact hz
              have HZ := Lib.hid (show G r c ≠ 0 by rw [← HX.out]; exact hz)
              clear hz
              go_wp2_with (at_builtin; refine wpList_append_own _ rfl _ _ 45 rfl w.heap.size 3 i0 (.int .i64 0) 1 8 Try.underlying45 HI.out HZ0.out HZ1.out HZ2.out rfl (by decide) _ _ _ rfl (hown.alloc _) ⟨wr.heap.size, 0, none⟩ 1 1 [.int .i64 (c : Int)] rfl rfl ?c1 ?c2 ?c3 ?c4 ?c5 ?_)
              case c1 =>
                intro i u hi
                match i, hi with
                | 0, hi => simp at hi; subst hi; simp [Addr.add]
              case c2 => intro u hu; simp at hu; subst hu; rfl
              case c3 => unfold maxLen; omega
              case c4 => omega
              case c5 => simp; omega
              · intro v' w1 hown' hgrow _
                have hpv := HR.out.pivot hr HZ.out hbase (hgb (by omega)) hown' hgrow
                have HPV := Lib.hid hpv
                clear hown hown' hgrow hpv
                go_wp2_with fail
                go_roundw
                case rel => exact ⟨c + 1, r + 1, _, G, s, B, O, C, by omega, by go_num, rfl, HPV.out⟩
                case measure => simp [intOf]; omega
      · go_wp2_with fail
        go_ret2
        exact ⟨r, P, G, s, _, B, O, C, rfl, HR.out.full (by omega) (by omega)⟩
    · obtain rfl : c = n := by omega
      go_wp2_with fail
      go_ret2
      exact ⟨r, P, G, s, _, B, O, C, rfl, HR.out⟩
end Go.Proofs.Ytdlpemmoobbgnaa

namespace Go.Proofs.Ytdlpemmoobbgnaa
open laF

/-- row k times f -/
def scR (p f : Int) (k : Nat) (G : Nat → Nat → Int) : Nat → Nat → Int := fun l j => if l = k then G k j * f % p else G l j
/-- row i less its entry at the pivot of row k times row k -/
def lsR (p : Int) (i k c : Nat) (G : Nat → Nat → Int) : Nat → Nat → Int := fun l j => if l = i then (G i j + (p - G i c % p) * G k j) % p else G l j

section
variable {q : Nat} [NeZero q] {R W n r k o i : Nat} {P : Nat → Nat} {G0 G : Nat → Nat → Int} {s f : Int}

structure RdS (q : Nat) [NeZero q] (R W n r k o i : Nat) (P : Nat → Nat) (G0 G : Nat → Nat → Int) : Prop where
  res : Res q R W G
  sp : SpanEq R W (phG q G0) (phG q G)
  le : r ≤ R
  lt : ∀ k, k < r → P k < n
  mono : ∀ k l, k < l → l < r → P k < P l
  lead : ∀ k j, k < r → j < P k → G k j = 0
  piv : ∀ k, k < r → G k (P k) ≠ 0
  rest : ∀ k j, r ≤ k → k < R → j < n → G k j = 0
  one : ∀ l, l < o → G l (P l) = 1
  col : ∀ i l, i < l → l < k → G i (P l) = 0
  cur : ∀ l, l < i → G l (P k) = 0

theorem RE.span (hp : isPB q = true) {m n : Nat} {M N : Nat → Nat → Fin q} {c : Fin q} (h : RE m n M N c) (hc : c ≠ 0) : SpanEq m n M N := by
  induction h with
  | refl e => exact SpanEq.rows e
  | swap hi hr hne _ ih => exact (ih (by intro e; apply hc; rw [e]; grind)).trans (SpanEq.swap hi hr)
  | @scale N c r u hr _ ih =>
    have hu : u ≠ 0 := by intro e; apply hc; rw [e]; grind
    have hc' : c ≠ 0 := by intro e; apply hc; rw [e]; grind
    obtain ⟨v, hv⟩ := exists_inv hp hu
    exact (ih hc').trans (SpanEq.scale hr hv)
  | elim q' hr _ ih => exact (ih hc).trans (SpanEq.elim hr q')
  | rows _ e ih => exact (ih hc).trans (SpanEq.rows e)

theorem ph_sgn (hq : 2 ≤ q) (h : s = 1 ∨ s = -1) : (ph s : Fin q) ≠ 0 := by
  intro e
  rw [ph_dvd] at e
  rcases h with rfl | rfl
  · have := Int.le_of_dvd (by omega) e; omega
  · have := Int.le_of_dvd (by omega) ((Int.dvd_neg).2 e); omega

theorem StI.reds (hp : isPB q = true) (h : StI q R W n r (r + 1) P G0 G s) : RdS q R W n r 0 0 0 P G0 G :=
  ⟨h.res, RE.span hp h.re (ph_sgn (isPB_ge q hp) h.sgn), h.le, h.lt, h.mono, h.lead, h.piv, h.rest, fun l hl => absurd hl (by omega), fun i l _ hl => absurd hl (by omega), fun l hl => absurd hl (by omega)⟩

theorem RdS.scale (h : RdS q R W n r k k 0 P G0 G) (hp : isPB q = true) (hk : k < r) (hn : n ≤ W) (hf : (ph f : Fin q) * ph (G k (P k)) = 1) : RdS q R W n r k (k + 1) 0 P G0 (scR q f k G) := by
  have hq := isPB_ge q hp
  have hle := h.le
  have e1 : ∀ j, scR q f k G k j = G k j * f % q := fun j => by unfold scR; rw [if_pos rfl]
  have e2 : ∀ l j, l ≠ k → scR q f k G l j = G l j := fun l j hl => by unfold scR; rw [if_neg hl]
  have hone : G k (P k) * f % q = 1 := by
    have : (ph (G k (P k) * f) : Fin q) = ph 1 := by rw [ph_mul, ph_one, ← hf]; grind
    rw [ph_eq] at this; rw [this]; exact Int.emod_eq_of_lt (by omega) (by omega)
  refine ⟨fun l j hl hj => ?_, h.sp.trans ((SpanEq.scale (r := k) (u := ph f) (v := ph (G k (P k))) (by omega) hf).trans (SpanEq.rows fun l j hl hj => ?_)), hle, h.lt, h.mono, fun l j hl hj => ?_, fun l hl => ?_, fun l j hl hlR hj => ?_, fun l hl => ?_, fun i l hi hl => ?_, fun l hl => absurd hl (by omega)⟩
  · by_cases e : l = k
    · rw [e, e1]; exact ⟨Int.emod_nonneg _ (by omega), Int.emod_lt_of_pos _ (by omega)⟩
    · rw [e2 l j e]; exact h.res l j hl hj
  · show (if l = k then ph f * ph (G k j) else ph (G l j)) = ph (scR q f k G l j)
    by_cases e : l = k
    · rw [if_pos e, e, e1, ph_mod, ph_mul]; grind
    · rw [if_neg e, e2 l j e]
  · by_cases e : l = k
    · rw [e, e1, h.lead k j hk (by rw [← e]; exact hj)]; simp
    · rw [e2 l j e]; exact h.lead l j hl hj
  · by_cases e : l = k
    · rw [e, e1, hone]; omega
    · rw [e2 l _ e]; exact h.piv l hl
  · rw [e2 l j (by omega)]; exact h.rest l j hl hlR hj
  · by_cases e : l = k
    · rw [e, e1, hone]
    · rw [e2 l _ e]; exact h.one l (by omega)
  · rw [e2 i _ (by omega)]; exact h.col i l hi hl

theorem RdS.less (h : RdS q R W n r k (k + 1) i P G0 G) (hq : 2 ≤ q) (hk : k < r) (hi : i < k) (hn : n ≤ W) : RdS q R W n r k (k + 1) (i + 1) P G0 (lsR q i k (P k) G) := by
  have hle := h.le
  have hpk := h.lt k hk
  obtain ⟨g0, g1⟩ := h.res i (P k) (by omega) (by omega)
  have e1 : ∀ j, lsR q i k (P k) G i j = (G i j + (q - G i (P k) % q) * G k j) % q := fun j => by unfold lsR; rw [if_pos rfl]
  have e2 : ∀ l j, l ≠ i → lsR q i k (P k) G l j = G l j := fun l j hl => by unfold lsR; rw [if_neg hl]
  have e3 : ∀ j, j < P k → j < W → lsR q i k (P k) G i j = G i j := fun j hj hjW => by
    obtain ⟨a0, a1⟩ := h.res i j (by omega) hjW
    rw [e1, h.lead k j hk hj, Int.mul_zero, Int.add_zero]; exact Int.emod_eq_of_lt a0 a1
  have hPi := h.mono i k hi hk
  refine ⟨fun l j hl hj => ?_, h.sp.trans ((SpanEq.elim (r := k) (by omega) (fun l => if l = i then ph (G i (P k)) else 0)).trans (SpanEq.rows fun l j hl hj => ?_)), hle, h.lt, h.mono, fun l j hl hj => ?_, fun l hl => ?_, fun l j hl hlR hj => ?_, fun l hl => ?_, fun i' l hi' hl => ?_, fun l hl => ?_⟩
  · by_cases e : l = i
    · rw [e, e1]; exact ⟨Int.emod_nonneg _ (by omega), Int.emod_lt_of_pos _ (by omega)⟩
    · rw [e2 l j e]; exact h.res l j hl hj
  · show (if l = k then ph (G k j) else ph (G l j) - (if l = i then ph (G i (P k)) else 0) * ph (G k j)) = ph (lsR q i k (P k) G l j)
    by_cases e : l = i
    · rw [if_neg (by omega), if_pos e, e, e1, ph_mod, ph_add, ph_mul, ph_sub_p, ph_mod]; grind
    · rw [e2 l j e, if_neg e]
      by_cases e' : l = k
      · rw [if_pos e', e']
      · rw [if_neg e']; grind
  · by_cases e : l = i
    · rw [e] at hj ⊢; rw [e3 j (by omega) (by omega)]; exact h.lead i j (by omega) hj
    · rw [e2 l j e]; exact h.lead l j hl hj
  · by_cases e : l = i
    · rw [e, e3 _ hPi (by omega)]; exact h.piv i (by omega)
    · rw [e2 l _ e]; exact h.piv l hl
  · rw [e2 l j (by omega)]; exact h.rest l j hl hlR hj
  · by_cases e : l = i
    · rw [e, e3 _ hPi (by omega)]; exact h.one i (by omega)
    · rw [e2 l _ e]; exact h.one l hl
  · by_cases e : i' = i
    · have := h.mono l k hl hk
      rw [e, e3 _ this (by omega)]; exact h.col i l (by omega) hl
    · rw [e2 i' _ e]; exact h.col i' l hi' hl
  · by_cases e : l = i
    · rw [e, e1, h.one k (by omega), Int.emod_eq_of_lt g0 g1, Int.mul_one, show G i (P k) + ((q : Int) - G i (P k)) = q by omega, Int.emod_self]
    · rw [e2 l _ e]; exact h.cur l (by omega)

theorem RdS.next (h : RdS q R W n r k (k + 1) k P G0 G) : RdS q R W n r (k + 1) (k + 1) 0 P G0 G :=
  { h with
    col := fun i l hi hl => by
      by_cases e : l = k
      · rw [e]; exact h.cur i (by omega)
      · exact h.col i l hi (by omega)
    cur := fun l hl => absurd hl (by omega) }

theorem RdS.rref (h : RdS q R W n r r r 0 P G0 G) : Rref R n r P (phG q G) :=
  ⟨h.le, h.lt, h.mono, fun i j hi hj => by unfold phG; rw [h.lead i j hi hj]; exact ph_zero, fun i hi => by unfold phG; rw [h.one i hi]; exact ph_one,
    fun i l hi hl hne => by
      unfold phG
      by_cases e : i < l
      · rw [h.col i l e hl]; exact ph_zero
      · by_cases e' : i < r
        · rw [h.lead i _ e' (h.mono l i (by omega) e')]; exact ph_zero
        · rw [h.rest i _ (by omega) hi (h.lt l hl)]; exact ph_zero,
    fun i j hi hR hj => by unfold phG; rw [h.rest i j hi hR hj]; exact ph_zero⟩
end
end Go.Proofs.Ytdlpemmoobbgnaa

namespace Go.Proofs.Ytdlpemmoobbgnaa
open Go.RowKit laF

theorem RdA.grownV {k : IntKind} {w w' : World} {v : Value} {n : Nat} {f : Nat → Int} (h : RdA k w v n f) {r : Option Nat} (hg : w.grownBy w' r) (hr : v.ownBlock = none ∨ v.ownBlock ≠ r) : RdA k w' v n f := by
  obtain ⟨a, cap, rfl, h1, h2, h3⟩ := h
  refine ⟨a, cap, rfl, h1, h2, fun h0 => ?_⟩
  obtain ⟨b, o, rfl, hc⟩ := h3 h0
  refine ⟨b, o, rfl, fun i hi => hg.cell (hc i hi) ?_⟩
  rcases hr with e | e
  · simp [Value.ownBlock] at e
  · exact e

/-- what reduced keeps in memory -/
structure RRel (w wr : World) (base gb go R W r : Nat) (P : Nat → Nat) (pv : Value) (B O C : Nat → Nat) (G : Nat → Nat → Int) : Prop where
  grid : GridAt .i64 wr base gb go R W B O C G
  piv : RdA .i64 wr pv r fun k => (P k : Int)
  ap : ∀ l, l < R → pv.ownBlock = none ∨ pv.ownBlock ≠ some (B l)
  below : Below base w wr

section
variable {w wr w3 : World} {base gb go R W r : Nat} {P : Nat → Nat} {pv : Value} {B O C : Nat → Nat} {G : Nat → Nat → Int}
theorem RRel.drew (h : RRel w wr base gb go R W r P pv B O C G) : RRel w wr.drew base gb go R W r P pv B O C G :=
  ⟨h.grid.drew, (by obtain ⟨a, cap, e, h1, h2, h3⟩ := h.piv; exact ⟨a, cap, e, h1, h2, h3⟩), h.ap, h.below.drew⟩
theorem RRel.row (h : RRel w wr base gb go R W r P pv B O C G) {i : Nat} (hi : i < R) {f : Nat → Int} (hbase : base ≤ wr.heap.size) (hf : RowAt .i64 w3 (B i) (O i) W f) (hg : wr.grownBy w3 (some (B i))) :
    RRel w w3 base gb go R W r P pv B O C (fun l c => if l = i then f c else G l c) :=
  ⟨h.grid.upd hi hf hg, RdA.grownV h.piv hg (h.ap i hi), h.ap, h.below.grown hg hbase (fun k hk => by injection hk with hk; have := h.grid.own i hi; omega)⟩
theorem RRel.congr (h : RRel w wr base gb go R W r P pv B O C G) {G' : Nat → Nat → Int} (e : ∀ i j, i < R → j < W → G i j = G' i j) : RRel w wr base gb go R W r P pv B O C G' :=
  { h with grid := h.grid.congr e }
end

set_option maxHeartbeats 4000000 in
set_option maxRecDepth 100000 in
theorem reduced12_any (q : Nat) [NeZero q] (p : Int) (hqp : (q : Int) = p) (hp : isPB q = true) (h2 : p < 2147483648) (R W n r gcap base gb go : Nat) (B O C : Nat → Nat) (P : Nat → Nat) (G0 G : Nat → Nat → Int) (hR : R ≤ 1048576) (hW : W ≤ 1048576) (hn : n ≤ W)
    (pv : Value) (w : World) (hst : RdS q R W n r 0 0 0 P G0 G) (hg : GridAt .i64 w base gb go R W B O C G) (hpv : RdA .i64 w pv r fun k => (P k : Int)) (hap : ∀ l, l < R → pv.ownBlock = none ∨ pv.ownBlock ≠ some (B l)) (hbase : base ≤ w.heap.size) :
    Calls Try.prog 115 #[.slice (some ⟨gb, go, none⟩) R gcap, pv, .int .i64 p] w fun e w' =>
      e = .returned (.tuple #[]) ∧ ∃ G', RdS q R W n r r r 0 P G0 G' ∧ RRel w w' base gb go R W r P pv B O C G' := by
  have hq2 := isPB_ge q hp
  have hp2 : 2 ≤ p := by omega
  have h0 : RRel w w base gb go R W r P pv B O C G := ⟨hg, hpv, hap, Below.refl _ _⟩
  obtain ⟨pa, pc, rfl, hrc, -⟩ := hpv
  have HST := Lib.hid hst
  have H0 := Lib.hid h0
  have HQP := Lib.hid hqp
  have HP := Lib.hid hp
  have hrR := hst.le
  clear hst hg hap h0 hqp hp
  go_enter Try.func115, Try.ntmps115
  go_wp2_with fail
  go_loopw [6] (fun kv wr => ∃ (k : Nat) (G : Nat → Nat → Int), k ≤ r ∧ kv = .int .i64 k ∧ RdS q R W n r k k 0 P G0 G ∧ RRel w wr base gb go R W r P (.slice pa r pc) B O C G) (fun kv _ => r - (intOf kv).toNat)
  case atStart => exact ⟨0, G, by omega, rfl, HST.out, H0.out⟩
  case round =>
    clear HST H0
    obtain ⟨k, G, k1, rfl, hst, hrel⟩ := hrel
    have HR := Lib.hid hrel
    have HST := Lib.hid hst
    clear hrel hst
    by_cases hk : k < r
    · obtain ⟨pb, po, hpa, hpc⟩ := (by obtain ⟨a, cap, e, -, -, h⟩ := HR.out.piv; injection e with e1 _ _; subst e1; exact h (by omega) : ∃ b o, pa = some ⟨b, o, none⟩ ∧ ∀ i, i < r → wr.cell? ⟨b, o + i, none⟩ = some (.int .i64 (P i : Int)))
      have d1 := hpc k hk
      have hkR : k < R := by omega
      have hPW : P k < W := by have := HST.out.lt k hk; omega
      obtain ⟨c, hc⟩ : ∃ c, c = P k := ⟨_, rfl⟩
      obtain ⟨x, hx⟩ : ∃ x, x = G k c := ⟨_, rfl⟩
      obtain ⟨x0, x1⟩ := HST.out.res k c hkR (by omega)
      obtain ⟨k3, k4⟩ := HR.out.grid.cells k hkR
      obtain ⟨k6, -⟩ := (HR.out.grid.rows k hkR).get (show c < W by omega) hx.symm
      have hcap := HR.out.grid.caps k hkR
      have hne : x ≠ 0 := by rw [hx, hc]; exact HST.out.piv k hk
      obtain ⟨f, hf⟩ : ∃ f, f = x ^ (p - 2).toNat % p := ⟨_, rfl⟩
      rw [← hx, HQP.out] at x1
      rw [← hx] at x0
      have hf1 : (ph f : Fin q) * ph x = 1 := by
        have := ph_inv HP.out x0 (by rw [HQP.out]; exact x1) hne
        rw [hf, show (p - 2).toNat = q - 2 by have := HQP.out; omega, ← HQP.out]; grind
      have hf2 : p = 2 → f = 1 := fun e => by rw [hf, e]; simp
      obtain ⟨f0, f1⟩ := md.mod_bd (x ^ (p - 2).toNat) p (by omega)
      have hpw := fun W => power12_any p x (p - 2) (by omega) h2 x0 x1 (by omega) (by omega) W
      rw [← hf] at hpw f0 f1
      rw [← hc] at d1 hPW
      have HPW := Lib.hid hpw
      have HC := Lib.hid hc
      have HX := Lib.hid hx
      have HF := Lib.hid hf1
      have HF2 := Lib.hid hf2
      clear hpw hc hx hf hf1 hf2 hpc hne
      subst hpa
      have g1 : (0 : Int) ≤ (k : Int) := by omega
      have g2 : (k : Int) < (R : Int) := by omega
      have g3 : (0 : Int) ≤ (c : Int) := by omega
      have g4 : (c : Int) < (W : Int) := by omega
      go_wp2_with fail
      refine (HPW.out _).mono ?_
      rintro e w' ⟨rfl, rfl⟩
      go_upto_if 33 with fail
      go_cut [8] (fun fv wx => fv = .int .i64 f ∧ wx = wr)
      case first =>
        by_cases h22 : p = 2
        · have hb : (p == 2) = true := beq_iff_eq.2 h22
          have hf := HF2.out h22
          clear h22
          go_wp2_with fail
          go_meet
          exact ⟨by rw [hf], rfl⟩
        · have hb : (p == 2) = false := beq_eq_false_iff_ne.2 h22
          clear h22
          go_wp2_with fail
          go_meet
          exact ⟨rfl, rfl⟩
      case rest =>
        clear k3 k4 k6 d1 hcap
        obtain ⟨rfl, rfl⟩ := hcut
        go_wp2_with fail
        go_loopw [9] (fun jv wr => ∃ j : Nat, j ≤ W ∧ jv = .int .i64 j ∧ RRel w wr base gb go R W r P (.slice (some ⟨pb, po, none⟩) r pc) B O C (fun l cc => if l = k then (if cc < j then G k cc * f % p else G k cc) else G l cc)) (fun jv _ => W - (intOf jv).toNat)
        case atStart => exact ⟨0, by omega, rfl, HR.out.congr fun l j hl hj => by
          by_cases e : l = k
          · rw [if_pos e, if_neg (by omega), e]
          · rw [if_neg e]⟩
        case round =>
          clear HR
          obtain ⟨j, j1, rfl, hrel⟩ := hrel
          by_cases hj : j < W
          · obtain ⟨y, hy⟩ : ∃ y, y = G k j := ⟨_, rfl⟩
            obtain ⟨y0, y1⟩ := HST.out.res k j hkR hj
            obtain ⟨k3, k4⟩ := hrel.grid.cells k hkR
            have hrow := hrel.grid.rows k hkR
            obtain ⟨k5, k6⟩ := hrow.get hj (x := y) (by show (if k = k then (if j < j then _ else G k j) else _) = y; rw [if_pos rfl, if_neg (by omega)]; exact hy.symm)
            have hcap := hrel.grid.caps k hkR
            have hbs : base ≤ wr.heap.size := Nat.le_trans hbase hrel.below.size
            rw [← hy] at y0 y1
            rw [HQP.out] at y1
            obtain ⟨q1, q2⟩ := md.prod_bd y f p y0 y1 f0 f1 h2
            have HR := Lib.hid hrel
            have HY := Lib.hid hy
            have HRW := Lib.hid hrow
            clear hrel hy hrow
            have g5 : (0 : Int) ≤ (j : Int) := by omega
            have g6 : (j : Int) < (W : Int) := by omega
            go_wp2_with fail
            go_region
            go_wp2_with fail
            go_roundw
            case rel =>
              refine ⟨j + 1, by omega, by go_num, (HR.out.row hkR hbs (HRW.out.set hj _) (gb_set _ _ _)).drew.congr fun l cc hl hcc => ?_⟩
              by_cases e : l = k
              · rw [if_pos e, if_pos e]
                by_cases e2 : cc = j
                · rw [if_pos e2, if_pos (by omega), e2, HY.out]
                · rw [if_neg e2]
                  simp only [if_true]
                  by_cases e3 : cc < j
                  · rw [if_pos e3, if_pos (by omega)]
                  · rw [if_neg e3, if_neg (by omega)]
              · simp only [if_neg e]
            case measure => simp [intOf]; omega
          · obtain rfl : W = j := by omega
            obtain ⟨k3, k4⟩ := hrel.grid.cells k hkR
            have hsc := HST.out.scale HP.out hk hn (f := f) (by rw [← HC.out, ← HX.out]; exact HF.out)
            have hrel2 := hrel.congr (G' := scR q f k G) fun l cc hl hcc => by
              unfold scR
              by_cases e : l = k
              · rw [if_pos e, if_pos e, if_pos (by omega), HQP.out]
              · rw [if_neg e, if_neg e]
            have HS2 := Lib.hid hsc
            have HR := Lib.hid hrel2
            clear hsc hrel hrel2 HST HX HF HF2 HPW
            generalize scR q f k G = G1 at HS2 HR
            go_wp2_with fail
            go_loopw [10] (fun iv wr => ∃ (i : Nat) (G : Nat → Nat → Int), i ≤ k ∧ iv = .int .i64 i ∧ RdS q R W n r k (k + 1) i P G0 G ∧ RRel w wr base gb go R W r P (.slice (some ⟨pb, po, none⟩) r pc) B O C G) (fun iv _ => k - (intOf iv).toNat)
            case atStart => exact ⟨0, G1, by omega, rfl, HS2.out, HR.out⟩
            case round =>
              clear HS2 HR G1
              obtain ⟨i, G, i1, rfl, hst, hrel⟩ := hrel
              by_cases hi : i < k
              · obtain ⟨z, hz⟩ : ∃ z, z = G i c := ⟨_, rfl⟩
                have hiR : i < R := by omega
                obtain ⟨z0, z1⟩ := hst.res i c hiR (by omega)
                obtain ⟨k1', k2'⟩ := hrel.grid.cells i hiR
                obtain ⟨k3, k4⟩ := hrel.grid.cells k hkR
                obtain ⟨k5, -⟩ := (hrel.grid.rows i hiR).get (show c < W by omega) hz.symm
                have hcap := hrel.grid.caps i hiR
                have hcap' := hrel.grid.caps k hkR
                have hap : B i ≠ B k := fun e => by have := hrel.grid.apart i k hiR hkR e; omega
                rw [← hz] at z0 z1
                rw [HQP.out] at z1
                have HR := Lib.hid hrel
                have HS := Lib.hid hst
                have HZ := Lib.hid hz
                have HAP := Lib.hid hap
                clear hrel hst hz hap
                have g5 : (0 : Int) ≤ (i : Int) := by omega
                have g6 : (i : Int) < (R : Int) := by omega
                go_wp2_with fail
                refine wp_region_still_tail 16 (by kernel_rfl) (by kernel_rfl) ?_
                simp only [List.take_succ_cons, List.take_zero, List.drop_succ_cons, List.drop_zero]
                repeat still_step
                refine wpStill_nil ?_
                change wpList _ _ _ _ _ wr.drew
                have hdr := HR.out.drew
                have HR := Lib.hid hdr
                clear hdr k1' k2' k3 k4 k5
                generalize wr.drew = w2 at HR ⊢
                have hls := less12_any p z (by omega) h2 z0 (by omega) (B i) (O i) (C i) (B k) (O k) (C k) W (G i) (G k) hW HAP.out (fun j hj => by rw [← HQP.out]; exact HS.out.res i j hiR hj) (fun j hj => by rw [← HQP.out]; exact HS.out.res k j hkR hj) _ (HR.out.grid.rows i hiR) (HR.out.grid.rows k hkR)
                have HLS := Lib.hid hls
                clear hls
                go_wp2_with fail
                refine HLS.out.mono ?_
                rintro e w3 ⟨rfl, hf3, hg3⟩
                have hnx := (HR.out.row hiR (Nat.le_trans hbase HR.out.below.size) hf3 hg3).congr (G' := lsR q i k (P k) G) fun l cc hl hcc => by
                  unfold lsR
                  by_cases e : l = i
                  · rw [if_pos e, if_pos e, HZ.out, HC.out, HQP.out]
                  · rw [if_neg e, if_neg e]
                have HN := Lib.hid hnx
                have HM := Lib.hid (HS.out.less hq2 hk hi hn)
                clear hf3 hg3 hnx
                go_wp2_with fail
                go_roundw
                case rel => exact ⟨i + 1, _, by omega, by go_num, HM.out, HN.out⟩
                case measure => simp [intOf]; omega
              · obtain rfl : k = i := by omega
                have HS := Lib.hid (RdS.next hst)
                have HR := Lib.hid hrel
                clear hrel hst
                go_wp2_with fail
                go_roundw
                case rel => exact ⟨k + 1, G, by omega, by go_num, HS.out, HR.out⟩
                case measure => simp [intOf]; omega
    · obtain rfl : k = r := by omega
      go_wp2_with fail
      go_end0
      exact ⟨rfl, G, HST.out, HR.out⟩
end Go.Proofs.Ytdlpemmoobbgnaa

namespace Go.Proofs.Ytdlpemmoobbgnaa
open laF

section
variable {q : Nat} [NeZero q] {R W n r k : Nat} {P : Nat → Nat} {G0 G : Nat → Nat → Int} {s : Int}
theorem RdS.lesses (hq : 2 ≤ q) (hk : k < r) (hn : n ≤ W) (h : RdS q R W n r k (k + 1) 0 P G0 G) : ∀ i, i ≤ k → ∃ G', RdS q R W n r k (k + 1) i P G0 G'
  | 0, _ => ⟨G, h⟩
  | i + 1, hi => by
    obtain ⟨G', h'⟩ := RdS.lesses hq hk hn h i (by omega)
    exact ⟨_, h'.less hq hk (by omega) hn⟩
theorem RdS.all (hp : isPB q = true) (hn : n ≤ W) (h : RdS q R W n r 0 0 0 P G0 G) : ∀ k, k ≤ r → ∃ G', RdS q R W n r k k 0 P G0 G'
  | 0, _ => ⟨G, h⟩
  | k + 1, hk => by
    have hq := isPB_ge q hp
    obtain ⟨G', h'⟩ := RdS.all hp hn h k (by omega)
    have hb := h'.res k (P k) (by have := h'.le; omega) (by have := h'.lt k hk; omega)
    have hv := ph_inv hp hb.1 hb.2 (h'.piv k hk)
    obtain ⟨G2, h2⟩ := RdS.lesses hq hk hn (h'.scale hp hk hn (f := G' k (P k) ^ (q - 2) % q) (by rw [← hv]; grind)) k (Nat.le_refl _)
    exact ⟨G2, h2.next⟩
/-- a reduced form of what stairs leaves -/
theorem StI.rref (hp : isPB q = true) (hn : n ≤ W) (h : StI q R W n r (r + 1) P G0 G s) : ∃ G', Rref R n r P (phG q G') ∧ SpanEq R W (phG q G0) (phG q G') := by
  obtain ⟨G', h'⟩ := RdS.all hp hn (h.reds hp) r (Nat.le_refl _)
  exact ⟨G', h'.rref, h'.sp⟩
end
end Go.Proofs.Ytdlpemmoobbgnaa

namespace Go.Proofs.Ytdlpemmoobbgnaa
open laF

section
variable {q : Nat} [NeZero q] {R C r : Nat} {P : Nat → Nat} {G0 G : Nat → Nat → Int} {s d : Int}
theorem same12 (hp : isPB q = true) (h0 : Res q R C G0) {N : Nat → Nat → Fin q} (h : Rref R C r P N) (hs : SpanEq R C (phG q G0) N) :
    r = (RS.run q R C ⟨G0, [], d⟩ C).P.length ∧ (∀ i, i < r → P i = (RS.run q R C ⟨G0, [], d⟩ C).P.getD i 0) ∧ ∀ i j, i < R → j < C → N i j = phG q (RS.run q R C ⟨G0, [], d⟩ C).G i j := by
  have hq := isPB_ge q hp
  obtain ⟨r2, s2⟩ := RS.run_ok hp h0 d C (Nat.le_refl C)
  have s3 := hs.symm.trans s2
  obtain ⟨e1, e2, e3⟩ := Rref.unique (one_ne hq) h r2 (fun i hi => s3.1 i (by have := h.le; omega)) (fun i hi => s3.2 i (by have := r2.le; omega))
  refine ⟨e1, e2, fun i j hi hj => ?_⟩
  by_cases e : i < r
  · exact e3 i j e hj
  · rw [h.rest i j (by omega) hi hj, r2.rest i j (by omega) hi hj]

theorem rank12 (hp : isPB q = true) (h : StI q R C C r (r + 1) P G0 G s) (h0 : Res q R C G0) :
    r = (RS.run q R C ⟨G0, [], d⟩ C).P.length ∧ (∀ i, i < r → P i = (RS.run q R C ⟨G0, [], d⟩ C).P.getD i 0) := by
  obtain ⟨G', h1, h2⟩ := h.rref hp (Nat.le_refl C)
  obtain ⟨e1, e2, -⟩ := same12 (d := d) hp h0 h1 h2
  exact ⟨e1, e2⟩

theorem ech12 (hp : isPB q = true) (h : RdS q R C C r r r 0 P G0 G) (h0 : Res q R C G0) :
    r = (RS.run q R C ⟨G0, [], d⟩ C).P.length ∧ (∀ i, i < r → P i = (RS.run q R C ⟨G0, [], d⟩ C).P.getD i 0) ∧ ∀ i j, i < R → j < C → G i j = (RS.run q R C ⟨G0, [], d⟩ C).G i j := by
  have hq := isPB_ge q hp
  obtain ⟨e1, e2, e3⟩ := same12 (d := d) hp h0 h.rref h.sp
  refine ⟨e1, e2, fun i j hi hj => ?_⟩
  have h1 := h.res i j hi hj
  have h2 := RS.run_res (s := ⟨G0, [], d⟩) (show (1 : Int) ≤ q by omega) (Nat.zero_le _) h0 C i j hi hj
  exact ph_inj h1.1 h1.2 h2.1 h2.2 (e3 i j hi hj)
end
end Go.Proofs.Ytdlpemmoobbgnaa
