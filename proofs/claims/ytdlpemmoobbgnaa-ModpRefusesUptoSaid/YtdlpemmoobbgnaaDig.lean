/- Plain facts on digits: the number that a list of digits tells; one number, one list in least form. -/
import Derived.Test.YtdlpemmoobbgnaaNatW
set_option linter.unusedVariables false
set_option linter.unusedSimpArgs false
namespace Go.Proofs.Ytdlpemmoobbgnaa

/-- the number told by n digits to the base B, the lowest first -/
def dv (B : Int) (f : Nat → Int) : Nat → Int
  | 0 => 0
  | n + 1 => dv B f n + f n * B ^ n

/-- n digits to the base B of the number N, none of the highest 0 -/
structure Dig (B : Int) (n : Nat) (f : Nat → Int) (N : Int) : Prop where
  bd : ∀ i, i < n → 0 ≤ f i ∧ f i < B
  top : 0 < n → f (n - 1) ≠ 0
  val : dv B f n = N

theorem dv_congr {B : Int} {f g : Nat → Int} : ∀ {n : Nat}, (∀ i, i < n → f i = g i) → dv B f n = dv B g n
  | 0, _ => rfl
  | n + 1, h => by simp only [dv]; rw [dv_congr (fun i hi => h i (by omega)), h n (by omega)]

theorem pow_pos' {B : Int} (hB : 0 < B) : ∀ n : Nat, 0 < B ^ n
  | 0 => by simp
  | n + 1 => by rw [Int.pow_succ]; exact Int.mul_pos (pow_pos' hB n) hB

theorem dv_bd {B : Int} (hB : 0 < B) {f : Nat → Int} : ∀ {n : Nat}, (∀ i, i < n → 0 ≤ f i ∧ f i < B) → 0 ≤ dv B f n ∧ dv B f n < B ^ n
  | 0, _ => by simp [dv]
  | n + 1, h => by
    obtain ⟨h1, h2⟩ := dv_bd hB (n := n) (fun i hi => h i (by omega))
    obtain ⟨h3, h4⟩ := h n (by omega)
    have hp := pow_pos' hB n
    simp only [dv]
    have a1 : 0 ≤ f n * B ^ n := Int.mul_nonneg h3 (by omega)
    have a2 : f n * B ^ n ≤ (B - 1) * B ^ n := Int.mul_le_mul_of_nonneg_right (by omega) (by omega)
    rw [Int.sub_mul, Int.one_mul] at a2
    rw [Int.pow_succ, Int.mul_comm (B ^ n) B]
    omega

/-- a sum of lower digits and a part above -/
theorem dv_split (B : Int) (f : Nat → Int) (a : Nat) : ∀ b, dv B f (a + b) = dv B f a + B ^ a * dv B (fun i => f (a + i)) b
  | 0 => by simp [dv]
  | b + 1 => by
    rw [← Nat.add_assoc]
    simp only [dv]
    rw [dv_split B f a b, Int.mul_add, Int.pow_add]
    grind

theorem dv_zero {B : Int} {f : Nat → Int} : ∀ {n : Nat}, (∀ i, i < n → f i = 0) → dv B f n = 0
  | 0, _ => rfl
  | n + 1, h => by simp only [dv]; rw [dv_zero (fun i hi => h i (by omega)), h n (by omega)]; simp

/-- more places hold zeros -/
theorem dv_more {B : Int} {f : Nat → Int} {m n : Nat} (hmn : m ≤ n) (h : ∀ i, m ≤ i → i < n → f i = 0) : dv B f n = dv B f m := by
  obtain ⟨d, rfl⟩ : ∃ d, n = m + d := ⟨n - m, by omega⟩
  rw [dv_split, dv_zero (fun i hi => h (m + i) (by omega) (by omega))]; simp

theorem natFrom_dv (f : Nat → Int) : ∀ (m i : Nat), natFrom f i m = dv 18446744073709551616 (fun k => f (i + k)) m
  | 0, _ => rfl
  | m + 1, i => by
    show f i + 18446744073709551616 * natFrom f (i + 1) m = _
    rw [natFrom_dv f m (i + 1), Nat.add_comm m 1, dv_split]
    simp only [dv, Nat.add_zero, Int.pow_zero, Int.mul_one, Int.zero_add, Int.pow_succ, Int.one_mul]
    congr 2
    exact dv_congr fun k _ => by rw [Nat.add_assoc]

theorem natFrom_dv0 (f : Nat → Int) (m : Nat) : natFrom f 0 m = dv 18446744073709551616 f m := by
  rw [natFrom_dv]; exact dv_congr fun k _ => by rw [Nat.zero_add]

/-- the digits in least form -/
theorem dig_sz {B : Int} {f : Nat → Int} {n : Nat} (h : ∀ i, i < n → 0 ≤ f i ∧ f i < B) : Dig B (sz f n) f (dv B f n) :=
  ⟨fun i hi => h i (by have := sz_le f n; omega), fun hp => sz_top f n hp, (dv_more (sz_le f n) (fun i h1 h2 => sz_above f n i h1 h2)).symm⟩

theorem Dig.nonneg {B : Int} (hB : 0 < B) {n : Nat} {f : Nat → Int} {N : Int} (h : Dig B n f N) : 0 ≤ N := by rw [← h.val]; exact (dv_bd hB h.bd).1
theorem Dig.congr {B : Int} {n : Nat} {f g : Nat → Int} {N : Int} (h : Dig B n f N) (e : ∀ i, i < n → f i = g i) : Dig B n g N :=
  ⟨fun i hi => by rw [← e i hi]; exact h.bd i hi, fun hp => by rw [← e (n - 1) (by omega)]; exact h.top hp, by rw [← h.val]; exact (dv_congr e).symm⟩

/-- it is as great as its highest place -/
theorem Dig.ge {B : Int} (hB : 0 < B) {n : Nat} {f : Nat → Int} {N : Int} (h : Dig B n f N) (hn : 0 < n) : B ^ (n - 1) ≤ N := by
  obtain ⟨m, rfl⟩ : ∃ m, n = m + 1 := ⟨n - 1, by omega⟩
  have h1 := h.top hn
  simp only [Nat.add_sub_cancel] at h1 ⊢
  have h2 := h.bd m (by omega)
  have h3 := dv_bd hB (fun i hi => h.bd i (show i < m + 1 by omega)) (n := m)
  have hp := pow_pos' hB m
  have h4 : 1 * B ^ m ≤ f m * B ^ m := Int.mul_le_mul_of_nonneg_right (by omega) (by omega)
  rw [← h.val]; simp only [dv]; omega
theorem Dig.lt {B : Int} (hB : 0 < B) {n : Nat} {f : Nat → Int} {N : Int} (h : Dig B n f N) : N < B ^ n := by rw [← h.val]; exact (dv_bd hB h.bd).2

theorem pow_le' {B : Int} (hB : 1 ≤ B) {m n : Nat} (h : m ≤ n) : B ^ m ≤ B ^ n := by
  obtain ⟨d, rfl⟩ : ∃ d, n = m + d := ⟨n - m, by omega⟩
  rw [Int.pow_add]
  have h1 := pow_pos' (show 0 < B by omega) m
  have h2 := pow_pos' (show 0 < B by omega) d
  have := Int.mul_le_mul_of_nonneg_left (show 1 ≤ B ^ d by omega) (show 0 ≤ B ^ m by omega)
  omega

/-- no more digits than these: -/
theorem Dig.len {B : Int} (hB : 1 < B) {n : Nat} {f : Nat → Int} {N : Int} (h : Dig B n f N) {k : Nat} (hk : N < B ^ k) : n ≤ k := by
  refine Nat.le_of_not_lt fun hlt => ?_
  have h1 := h.ge (by omega) (by omega)
  have h2 := pow_le' (B := B) (by omega) (show k ≤ n - 1 by omega)
  omega

/-- which digit stands at the place i -/
theorem dv_digit {B : Int} (hB : 0 < B) {f : Nat → Int} {n : Nat} (h : ∀ i, i < n → 0 ≤ f i ∧ f i < B) {i : Nat} (hi : i < n) : f i = dv B f n / B ^ i % B := by
  obtain ⟨d, rfl⟩ : ∃ d, n = i + (1 + d) := ⟨n - i - 1, by omega⟩
  have hb := dv_bd hB (fun k hk => h k (show k < i + (1 + d) by omega)) (n := i)
  have hp := pow_pos' hB i
  rw [dv_split, Int.add_mul_ediv_left _ _ (by omega), Int.ediv_eq_zero_of_lt hb.1 hb.2, Int.zero_add, dv_split]
  simp only [dv, Int.pow_zero, Int.mul_one, Int.zero_add, Nat.add_zero, Int.pow_succ, Int.one_mul]
  rw [Int.add_mul_emod_self_left]
  exact (Int.emod_eq_of_lt (h i hi).1 (h i hi).2).symm

theorem Dig.unique {B : Int} (hB : 1 < B) {n m : Nat} {f g : Nat → Int} {N : Int} (h : Dig B n f N) (h' : Dig B m g N) : n = m ∧ ∀ i, i < n → f i = g i := by
  have e : n = m := by
    have h1 := h.len hB (h'.lt (by omega))
    have h2 := h'.len hB (h.lt (by omega))
    omega
  subst e
  exact ⟨rfl, fun i hi => by rw [dv_digit (by omega) h.bd hi, dv_digit (by omega) h'.bd hi, h.val, h'.val]⟩

theorem Dig.zero_iff {B : Int} (hB : 1 < B) {n : Nat} {f : Nat → Int} {N : Int} (h : Dig B n f N) : n = 0 ↔ N = 0 := by
  constructor
  · intro e; subst e; rw [← h.val]; rfl
  · intro e
    refine Classical.byContradiction fun hne => ?_
    have h1 := h.ge (by omega) (by omega)
    have h2 := pow_pos' (show 0 < B by omega) (n - 1)
    omega

/-- order by the lengths -/
theorem Dig.lt_of_len {B : Int} (hB : 1 < B) {n m : Nat} {f g : Nat → Int} {N M : Int} (h : Dig B n f N) (h' : Dig B m g M) (hl : n < m) : N < M := by
  have h1 := h.lt (by omega)
  have h2 := h'.ge (by omega) (by omega)
  have h3 := pow_le' (B := B) (by omega) (show n ≤ m - 1 by omega)
  omega
/-- order by the highest digits that differ -/
theorem dv_lt {B : Int} (hB : 0 < B) {f g : Nat → Int} {n : Nat} (hf : ∀ i, i < n → 0 ≤ f i ∧ f i < B) (hg : ∀ i, i < n → 0 ≤ g i ∧ g i < B) {k : Nat} (hk : k < n) (he : ∀ i, k < i → i < n → f i = g i) (hlt : f k < g k) : dv B f n < dv B g n := by
  obtain ⟨d, rfl⟩ : ∃ d, n = (k + 1) + d := ⟨n - (k + 1), by omega⟩
  rw [dv_split, dv_split (f := g), dv_congr (f := fun i => f (k + 1 + i)) (g := fun i => g (k + 1 + i)) (fun i hi => he _ (by omega) (by omega))]
  simp only [dv]
  have h1 := dv_bd hB (fun i hi => hf i (show i < (k + 1) + d by omega)) (n := k)
  have h2 := dv_bd hB (fun i hi => hg i (show i < (k + 1) + d by omega)) (n := k)
  have hp := pow_pos' hB k
  have h3 : (f k + 1) * B ^ k ≤ g k * B ^ k := Int.mul_le_mul_of_nonneg_right (by omega) (by omega)
  rw [Int.add_mul, Int.one_mul] at h3
  omega

/-- the four digits to the base 2^16 of each word -/
def spl (f : Nat → Int) (t : Nat) : Int := f (t / 4) / 65536 ^ (t % 4) % 65536

theorem spl_bd (f : Nat → Int) (t : Nat) : 0 ≤ spl f t ∧ spl f t < 65536 := ⟨Int.emod_nonneg _ (by omega), Int.emod_lt_of_pos _ (by omega)⟩

theorem spl_at (f : Nat → Int) (j k : Nat) (hk : k < 4) : spl f (4 * j + k) = f j / 65536 ^ k % 65536 := by
  unfold spl
  rw [show (4 * j + k) / 4 = j by omega, show (4 * j + k) % 4 = k by omega]

theorem spl_dv (f : Nat → Int) : ∀ n, (∀ i, i < n → 0 ≤ f i ∧ f i < 18446744073709551616) → dv 65536 (spl f) (4 * n) = dv 18446744073709551616 f n
  | 0, _ => rfl
  | n + 1, h => by
    have ih := spl_dv f n (fun i hi => h i (by omega))
    have hb := h n (by omega)
    rw [show 4 * (n + 1) = 4 * n + 4 by omega, dv_split, ih]
    simp only [dv]
    have e0 := spl_at f n 0 (by omega)
    have e1 := spl_at f n 1 (by omega)
    have e2 := spl_at f n 2 (by omega)
    have e3 := spl_at f n 3 (by omega)
    have hp : (65536 : Int) ^ (4 * n) = 18446744073709551616 ^ n := by rw [Int.pow_mul]; rfl
    simp only [Nat.zero_add, Int.zero_add, Nat.add_zero] at *
    rw [e0, e1, e2, e3, hp, Int.mul_comm (f n)]
    congr 2
    have p1 : (65536 : Int) ^ 1 = 65536 := rfl
    have p2 : (65536 : Int) ^ 2 = 4294967296 := rfl
    have p3 : (65536 : Int) ^ 3 = 281474976710656 := rfl
    rw [Int.pow_zero, p1, p2, p3]
    omega

/-- a word of four digits, those from the place n on taken for 0 -/
def joi (f : Nat → Int) (n t : Nat) : Int :=
  (if 4 * t < n then f (4 * t) else 0) + 65536 * ((if 4 * t + 1 < n then f (4 * t + 1) else 0) + 65536 * ((if 4 * t + 2 < n then f (4 * t + 2) else 0) + 65536 * (if 4 * t + 3 < n then f (4 * t + 3) else 0)))

theorem joi_bd {f : Nat → Int} {n : Nat} (h : ∀ i, i < n → 0 ≤ f i ∧ f i < 65536) (t : Nat) : 0 ≤ joi f n t ∧ joi f n t < 18446744073709551616 := by
  unfold joi
  have a (k : Nat) : 0 ≤ (if k < n then f k else 0) ∧ (if k < n then f k else 0) < 65536 := by
    split
    · exact h k (by assumption)
    · omega
  have := a (4 * t); have := a (4 * t + 1); have := a (4 * t + 2); have := a (4 * t + 3)
  omega

theorem joi_dv (f : Nat → Int) (n : Nat) : ∀ m, dv 18446744073709551616 (joi f n) m = dv 65536 (fun i => if i < n then f i else 0) (4 * m)
  | 0 => rfl
  | m + 1 => by
    rw [show 4 * (m + 1) = 4 * m + 4 by omega, dv_split 65536, ← joi_dv f n m]
    simp only [dv]
    have hp : (65536 : Int) ^ (4 * m) = 18446744073709551616 ^ m := by rw [Int.pow_mul]; rfl
    have p1 : (65536 : Int) ^ 1 = 65536 := rfl
    have p2 : (65536 : Int) ^ 2 = 4294967296 := rfl
    have p3 : (65536 : Int) ^ 3 = 281474976710656 := rfl
    rw [hp, Int.mul_comm (joi f n m)]
    congr 2
    unfold joi
    simp only [Nat.zero_add, Int.zero_add, Nat.add_zero, Int.pow_zero, p1, p2, p3]
    omega

/-- digits in least form, put together: words in least form -/
theorem Dig.join {n : Nat} {f : Nat → Int} {N : Int} (h : Dig 65536 n f N) {m : Nat} (h1 : n ≤ 4 * m) (h2 : 4 * m < n + 4) : Dig 18446744073709551616 m (joi f n) N := by
  refine ⟨fun i _ => joi_bd h.bd i, fun hm => ?_, ?_⟩
  · have ht := h.top (by omega)
    have a (k : Nat) : 0 ≤ (if k < n then f k else 0) := by
      split
      · exact (h.bd k (by assumption)).1
      · omega
    have := a (4 * (m - 1)); have := a (4 * (m - 1) + 1); have := a (4 * (m - 1) + 2); have := a (4 * (m - 1) + 3)
    have hn := h.bd (n - 1) (by omega)
    have hx : ∃ k, k < 4 ∧ n - 1 = 4 * (m - 1) + k := ⟨n - 1 - 4 * (m - 1), by omega, by omega⟩
    obtain ⟨k, hk, e⟩ := hx
    have hf : (if 4 * (m - 1) + k < n then f (4 * (m - 1) + k) else 0) ≠ 0 := by rw [if_pos (by omega), ← e]; exact ht
    unfold joi
    rcases (by omega : k = 0 ∨ k = 1 ∨ k = 2 ∨ k = 3) with r | r | r | r <;> subst r <;> (try simp only [Nat.add_zero] at hf) <;> omega
  · rw [joi_dv, dv_more h1 (fun i hi _ => if_neg (by omega)), ← h.val]
    exact dv_congr fun i hi => if_pos hi

/-- a number is told by digits -/
theorem Dig.split {n : Nat} {f : Nat → Int} (h : ∀ i, i < n → 0 ≤ f i ∧ f i < 18446744073709551616) : Dig 65536 (sz (spl f) (4 * n)) (spl f) (dv 18446744073709551616 f n) := by
  rw [← spl_dv f n h]; exact dig_sz fun i _ => spl_bd f i

end Go.Proofs.Ytdlpemmoobbgnaa
