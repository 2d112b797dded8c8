/- Plain facts on primes by trial division (no program in sight). -/
set_option linter.unusedVariables false
set_option linter.unusedSimpArgs false
namespace Go.Proofs.Ytdlpemmoobbgnaa

def isPB (n : Nat) : Bool := decide (2 ≤ n) && (List.range n).all fun d => decide (d < 2 ∨ n < d * d ∨ n % d ≠ 0)

theorem isPB_iff (n : Nat) : isPB n = true ↔ 2 ≤ n ∧ ∀ d, 2 ≤ d → d * d ≤ n → n % d ≠ 0 := by
  unfold isPB
  simp only [Bool.and_eq_true, decide_eq_true_eq, List.all_eq_true, List.mem_range]
  constructor
  · rintro ⟨h, g⟩
    refine ⟨h, fun d h2 hd => ?_⟩
    have : d * 2 ≤ d * d := Nat.mul_le_mul_left d h2
    have := g d (by omega)
    omega
  · rintro ⟨h, g⟩
    refine ⟨h, fun d _ => ?_⟩
    by_cases h2 : d < 2
    · exact Or.inl h2
    · by_cases hd : n < d * d
      · exact Or.inr (Or.inl hd)
      · exact Or.inr (Or.inr (g d (by omega) (by omega)))

theorem isPB_small (n : Int) (h : n < 2) : isPB n.toNat = false := by
  rw [Bool.eq_false_iff]; intro e; rw [isPB_iff] at e; omega

theorem isPB_no (n k : Int) (h2 : 2 ≤ k) (hk : k * k ≤ n) (h : n % k = 0) : isPB n.toNat = false := by
  rw [Bool.eq_false_iff]; intro e; rw [isPB_iff] at e
  obtain ⟨a, rfl⟩ := Int.eq_ofNat_of_zero_le (show 0 ≤ k by omega)
  have h0 : (0 : Int) ≤ (a : Int) * a := Int.mul_nonneg (by omega) (by omega)
  obtain ⟨m, rfl⟩ := Int.eq_ofNat_of_zero_le (show 0 ≤ n by omega)
  have hk' : a * a ≤ m := by exact_mod_cast hk
  refine e.2 a (by omega) (by simpa using hk') ?_
  simp only [Int.toNat_natCast]
  exact_mod_cast h

theorem isPB_yes (n k : Int) (h2 : 2 ≤ n) (h : ∀ e : Int, 2 ≤ e → e < k → n % e ≠ 0) (hk : n < k * k) (hk0 : 0 ≤ k) : isPB n.toNat = true := by
  rw [isPB_iff]
  obtain ⟨m, rfl⟩ := Int.eq_ofNat_of_zero_le (show 0 ≤ n by omega)
  obtain ⟨a, rfl⟩ := Int.eq_ofNat_of_zero_le hk0
  simp only [Int.toNat_natCast]
  refine ⟨by omega, fun d hd hdd e => ?_⟩
  have hk' : m < a * a := by exact_mod_cast hk
  have hlt : d < a := by
    refine Nat.lt_of_not_le fun hle => ?_
    have := Nat.mul_le_mul hle hle
    omega
  exact h d (by omega) (by omega) (by exact_mod_cast e)

/-- a divisor's own divisor -/
theorem mod_mul_ne (n e c : Int) (hc : e % c = 0) (h : n % c ≠ 0) : n % e ≠ 0 := by
  intro he
  apply h
  exact Int.emod_eq_zero_of_dvd (Int.dvd_trans (Int.dvd_of_emod_eq_zero hc) (Int.dvd_of_emod_eq_zero he))

/-- the wheel of six -/
theorem wheel (n k : Int) (hk : k % 6 = 5) (h2 : n % 2 ≠ 0) (h3 : n % 3 ≠ 0) (h : ∀ e : Int, 2 ≤ e → e < k → n % e ≠ 0) (a : n % k ≠ 0) (b : n % (k + 2) ≠ 0) :
    ∀ e : Int, 2 ≤ e → e < k + 6 → n % e ≠ 0 := by
  intro e he hlt
  by_cases h1 : e < k
  · exact h e he h1
  rcases (by omega : e = k ∨ e = k + 2 ∨ e % 2 = 0 ∨ e % 3 = 0) with r | r | r | r
  · rw [r]; exact a
  · rw [r]; exact b
  · exact mod_mul_ne n e 2 r h2
  · exact mod_mul_ne n e 3 r h3

theorem wheel0 (n : Int) (h2 : n % 2 ≠ 0) (h3 : n % 3 ≠ 0) : ∀ e : Int, 2 ≤ e → e < 5 → n % e ≠ 0 := by
  intro e he hlt
  rcases (by omega : e % 2 = 0 ∨ e % 3 = 0) with r | r
  · exact mod_mul_ne n e 2 r h2
  · exact mod_mul_ne n e 3 r h3

theorem step1 (n k : Int) (h : ∀ e : Int, 2 ≤ e → e < k → n % e ≠ 0) (a : n % k ≠ 0) : ∀ e : Int, 2 ≤ e → e < k + 1 → n % e ≠ 0 := by
  intro e he hlt
  by_cases h1 : e < k
  · exact h e he h1
  · rw [show e = k by omega]; exact a

/-- the root of a number below 2^31 -/
theorem sq_lt (n k : Int) (h0 : 0 ≤ k) (hk : k * k ≤ n) (hn : n < 2147483648) : k < 46341 := by
  refine Int.lt_of_not_ge fun hge => ?_
  have := Int.mul_le_mul hge hge (by omega) h0
  omega

theorem sq_bd (k : Int) (h0 : 0 ≤ k) (hk : k ≤ 46400) : 0 ≤ k * k ∧ k * k ≤ 2152960000 :=
  ⟨Int.mul_nonneg h0 h0, by have := Int.mul_le_mul hk hk h0 (by omega); omega⟩

/-- the second divisor of the wheel's step divides: it is no more than the number, and not the number itself unless that is small -/
theorem isPB_two (n k : Int) (h5 : 5 ≤ k) (hk : k * k ≤ n) (hb : k < 46341) (h : n % (k + 2) = 0) (h4 : 4 ≤ n) : isPB n.toNat = false := by
  obtain ⟨q, hq⟩ := Int.dvd_of_emod_eq_zero h
  have hlt : k + 2 < n := by have := Int.mul_le_mul_of_nonneg_right h5 (show 0 ≤ k by omega); omega
  have q1 : 2 ≤ q := by
    refine Int.not_lt.1 fun hlt' => ?_
    have := Int.mul_le_mul_of_nonneg_left (show q ≤ 1 by omega) (show 0 ≤ k + 2 by omega)
    omega
  by_cases hc : (k + 2) * (k + 2) ≤ n
  · exact isPB_no n (k + 2) (by omega) hc h
  · refine isPB_no n q q1 ?_ (by rw [hq]; exact Int.mul_emod_left _ _)
    have : q ≤ k + 2 := by
      refine Int.not_lt.1 fun hlt' => hc ?_
      rw [hq]
      exact Int.mul_le_mul_of_nonneg_left (by omega) (by omega)
    rw [hq]
    exact Int.mul_le_mul_of_nonneg_right this (by omega)

/-- the greatest prime below n, or 0 -/
def belowP : Nat → Nat
  | 0 => 0
  | k + 1 => if isPB k then k else belowP k

theorem belowP_succ (m : Int) (h : 1 ≤ m) : belowP m.toNat = if isPB (m - 1).toNat then (m - 1).toNat else belowP (m - 1).toNat := by
  have e : m.toNat = (m - 1).toNat + 1 := by omega
  rw [e]; rfl

theorem belowP_small (m : Int) (h : m ≤ 2) : belowP m.toNat = 0 := by
  rcases (by omega : m.toNat = 0 ∨ m.toNat = 1 ∨ m.toNat = 2) with r | r | r <;> rw [r] <;> decide

theorem belowP_spec (n : Nat) : (belowP n = 0 ∧ ∀ k, k < n → isPB k = false) ∨ (belowP n < n ∧ isPB (belowP n) = true ∧ ∀ k, belowP n < k → k < n → isPB k = false) := by
  induction n with
  | zero => left; exact ⟨rfl, fun k h => absurd h (by omega)⟩
  | succ n ih =>
    by_cases h : isPB n = true
    · right
      simp only [belowP, h, if_true]
      exact ⟨by omega, trivial, fun k a b => absurd a (by omega)⟩
    · have h' : isPB n = false := by simpa using h
      simp only [belowP, h', Bool.false_eq_true, if_false]
      rcases ih with ⟨a, b⟩ | ⟨a, b, c⟩
      · left
        refine ⟨a, fun k hk => ?_⟩
        by_cases e : k = n
        · rw [e]; exact h'
        · exact b k (by omega)
      · right
        refine ⟨by omega, b, fun k h1 h2 => ?_⟩
        by_cases e : k = n
        · rw [e]; exact h'
        · exact c k h1 (by omega)

theorem isPB_ge (n : Nat) (h : isPB n = true) : 2 ≤ n := ((isPB_iff n).1 h).1

/-- products are no primes -/
theorem isPB_mul (x y : Nat) (hx : 2 ≤ x) (hy : 2 ≤ y) : isPB (x * y) = false := by
  rw [Bool.eq_false_iff]; intro e; rw [isPB_iff] at e
  by_cases h : x ≤ y
  · exact e.2 x hx (Nat.mul_le_mul_left x h) (Nat.mul_mod_right x y)
  · refine e.2 y hy (Nat.mul_le_mul_right y (by omega)) (Nat.mul_mod_left x y)

end Go.Proofs.Ytdlpemmoobbgnaa
