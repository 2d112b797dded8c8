/- Determinants over Fin p, along the first column; what row operations do to them; products. Plain: the program's elimination and determinants modulo a prime: what Det answers is the determinant; products, transposes. Plain: what stands behind ModpDets: products, transposes, the unit matrix, the inverse. -/
import Derived.Test.YtdlpemmoobbgnaaGG
import Derived.Test.YtdlpemmoobbgnaaGI
import Derived.Test.YtdlpemmoobbgnaaGK
set_option linter.unusedVariables false
set_option linter.unusedSimpArgs false
namespace Go.Proofs.Ytdlpemmoobbgnaa.laF
variable {p : Nat} [NeZero p]

/-- the places but i -/
def sk (i k : Nat) : Nat := if k < i then k else k + 1
/-- where r stands among the places but i -/
def us (i r : Nat) : Nat := if r < i then r else r - 1
theorem sk_ne (i k : Nat) : sk i k ≠ i := by unfold sk; split <;> omega
theorem sk_eq {i r k : Nat} (h : r ≠ i) : sk i k = r ↔ k = us i r := by unfold sk us; (repeat' split) <;> omega
theorem sk_lt {i k n : Nat} (hk : k < n) : sk i k < n + 1 := by unfold sk; split <;> omega
theorem us_lt {i r n : Nat} (hr : r < n + 1) (hi : i < n + 1) (h : r ≠ i) : us i r < n := by unfold us; split <;> omega

def mnr {α : Type} (i : Nat) (M : Nat → Nat → α) : Nat → Nat → α := fun r c => M (sk i r) (c + 1)
def sg (i : Nat) : Fin p := if i % 2 = 0 then 1 else -1
theorem sg_succ (i : Nat) : (sg (i + 1) : Fin p) = - sg i := by
  unfold sg
  by_cases h : i % 2 = 0
  · rw [if_pos h, if_neg (by omega)]
  · rw [if_neg h, if_pos (by omega)]; grind

def dt : Nat → (Nat → Nat → Fin p) → Fin p
  | 0, _ => 1
  | n + 1, M => sm (n + 1) (fun i => sg i * M i 0 * dt n (mnr i M))

theorem dt_congr : ∀ {n : Nat} {M N : Nat → Nat → Fin p}, (∀ i j, i < n → j < n → M i j = N i j) → dt n M = dt n N
  | 0, _, _, _ => rfl
  | n + 1, M, N, h => sm_congr fun i hi => by
    rw [h i 0 hi (by omega), dt_congr (n := n) (M := mnr i M) (N := mnr i N) fun r c hr hc => h _ _ (sk_lt hr) (by omega)]

/-- the row r replaced -/
def rwr {α : Type} (r : Nat) (v : Nat → α) (M : Nat → Nat → α) : Nat → Nat → α := fun i j => if i = r then v j else M i j
theorem rwr_at {α : Type} (r : Nat) (v : Nat → α) (M : Nat → Nat → α) (j : Nat) : rwr r v M r j = v j := if_pos rfl
theorem rwr_ne {α : Type} {r i : Nat} (v : Nat → α) (M : Nat → Nat → α) (j : Nat) (h : i ≠ r) : rwr r v M i j = M i j := if_neg h
theorem rwr_self {α : Type} (r : Nat) (M : Nat → Nat → α) : rwr r (M r) M = M := by
  funext i j; unfold rwr; split
  · rename_i e; rw [e]
  · rfl
theorem rwr_comm {α : Type} {r s : Nat} (u v : Nat → α) (M : Nat → Nat → α) (h : r ≠ s) : rwr r u (rwr s v M) = rwr s v (rwr r u M) := by
  funext i j; unfold rwr
  by_cases e : i = r
  · rw [if_pos e, if_neg (by omega), if_pos e]
  · rw [if_neg e, if_neg e]
theorem mnr_rwr_same {α : Type} (r : Nat) (v : Nat → α) (M : Nat → Nat → α) : mnr r (rwr r v M) = mnr r M := by
  funext i j; unfold mnr; exact rwr_ne _ _ _ (sk_ne r i)
theorem mnr_rwr {α : Type} {i r : Nat} (v : Nat → α) (M : Nat → Nat → α) (h : r ≠ i) : mnr i (rwr r v M) = rwr (us i r) (fun j => v (j + 1)) (mnr i M) := by
  funext k j
  show (if sk i k = r then _ else _) = (if k = us i r then _ else _)
  by_cases e : k = us i r
  · rw [if_pos e, if_pos ((sk_eq h).2 e)]
  · rw [if_neg e, if_neg (fun e' => e ((sk_eq h).1 e'))]; rfl

theorem dt_lin : ∀ {n r : Nat} (M : Nat → Nat → Fin p) (a b : Fin p) (u v : Nat → Fin p), r < n → dt n (rwr r (fun j => a * u j + b * v j) M) = a * dt n (rwr r u M) + b * dt n (rwr r v M)
  | 0, _, _, _, _, _, _, h => absurd h (by omega)
  | n + 1, r, M, a, b, u, v, h => by
    show sm (n + 1) _ = a * sm (n + 1) _ + b * sm (n + 1) _
    rw [← sm_mul, ← sm_mul, ← sm_add]
    refine sm_congr fun i hi => ?_
    show sg i * rwr r (fun j => a * u j + b * v j) M i 0 * dt n (mnr i (rwr r (fun j => a * u j + b * v j) M)) = a * (sg i * rwr r u M i 0 * dt n (mnr i (rwr r u M))) + b * (sg i * rwr r v M i 0 * dt n (mnr i (rwr r v M)))
    by_cases e : i = r
    · subst e
      rw [mnr_rwr_same, mnr_rwr_same, mnr_rwr_same, rwr_at, rwr_at, rwr_at]; grind
    · rw [rwr_ne _ _ _ e, rwr_ne _ _ _ e, rwr_ne _ _ _ e, mnr_rwr _ _ (fun e' => e e'.symm), mnr_rwr _ _ (fun e' => e e'.symm), mnr_rwr _ _ (fun e' => e e'.symm)]
      rw [dt_lin (mnr i M) a b (fun j => u (j + 1)) (fun j => v (j + 1)) (us_lt h hi (fun e' => e e'.symm))]; grind

theorem sm_two {n k : Nat} (f : Nat → Fin p) (hk : k + 1 < n) (h : ∀ i, i < n → i ≠ k → i ≠ k + 1 → f i = 0) : sm n f = f k + f (k + 1) := by
  induction n with
  | zero => omega
  | succ n ih =>
    simp only [sm]
    by_cases e : k + 1 = n
    · subst e
      rw [sm_one f (show k < k + 1 by omega) (fun i hi hne => h i (by omega) hne (by omega))]
    · rw [ih (by omega) (fun i hi => h i (by omega)), h n (by omega) (by omega) (by omega)]; grind

/-- two neighbours alike -/
theorem dt_alt1 : ∀ {n k : Nat} (M : Nat → Nat → Fin p), k + 1 < n → (∀ j, j < n → M k j = M (k + 1) j) → dt n M = 0
  | 0, _, _, h, _ => absurd h (by omega)
  | n + 1, k, M, h, he => by
    show sm (n + 1) _ = 0
    rw [sm_two (k := k) _ h (fun i hi h1 h2 => ?_)]
    · have e1 : dt n (mnr k M) = dt n (mnr (k + 1) M) := dt_congr fun r c hr hc => by
        show M (sk k r) (c + 1) = M (sk (k + 1) r) (c + 1)
        by_cases e : r = k
        · subst e
          rw [show sk r r = r + 1 by unfold sk; rw [if_neg (by omega)], show sk (r + 1) r = r by unfold sk; rw [if_pos (by omega)], he _ (by omega)]
        · rw [show sk k r = sk (k + 1) r by unfold sk; (repeat' split) <;> omega]
      rw [e1, he 0 (by omega), sg_succ]; grind
    · have hlt : us i k + 1 < n := by unfold us; split <;> omega
      rw [dt_alt1 (k := us i k) (mnr i M) hlt (fun j hj => by
        show M (sk i (us i k)) (j + 1) = M (sk i (us i k + 1)) (j + 1)
        rw [(sk_eq (fun e => h1 e.symm)).2 rfl, show sk i (us i k + 1) = k + 1 by unfold sk us; (repeat' split) <;> omega]
        exact he _ (by omega))]
      grind

/-- two neighbours exchanged -/
theorem dt_swap1 {n k : Nat} (M : Nat → Nat → Fin p) (h : k + 1 < n) : dt n (rwr k (M (k + 1)) (rwr (k + 1) (M k) M)) = - dt n M := by
  have key : ∀ u v : Nat → Fin p, dt n (rwr k u (rwr (k + 1) v M)) + dt n (rwr k v (rwr (k + 1) u M)) = 0 := fun u v => by
    have h0 := dt_alt1 (k := k) (rwr k (fun j => 1 * u j + 1 * v j) (rwr (k + 1) (fun j => 1 * u j + 1 * v j) M)) h (fun j _ => by rw [rwr_at, rwr_ne _ _ _ (by omega), rwr_at])
    have hu := dt_alt1 (k := k) (rwr k u (rwr (k + 1) u M)) h (fun j _ => by rw [rwr_at, rwr_ne _ _ _ (by omega), rwr_at])
    have hv := dt_alt1 (k := k) (rwr k v (rwr (k + 1) v M)) h (fun j _ => by rw [rwr_at, rwr_ne _ _ _ (by omega), rwr_at])
    rw [dt_lin _ 1 1 u v (by omega), rwr_comm _ _ _ (by omega), rwr_comm (r := k) v _ _ (by omega), dt_lin _ 1 1 u v (by omega), dt_lin _ 1 1 u v (by omega), rwr_comm (s := k) _ _ _ (by omega), rwr_comm (s := k) _ _ _ (by omega), rwr_comm (s := k) _ _ _ (by omega), rwr_comm (s := k) _ _ _ (by omega), hu, hv] at h0
    grind
  have h1 := key (M (k + 1)) (M k)
  rw [rwr_self, rwr_self] at h1
  grind

/-- two rows alike -/
theorem dt_alt {n : Nat} : ∀ (d : Nat) {i : Nat} (M : Nat → Nat → Fin p), i + d + 1 < n → (∀ j, j < n → M i j = M (i + d + 1) j) → dt n M = 0
  | 0, _, M, h, he => dt_alt1 M h he
  | d + 1, i, M, h, he => by
    have h1 := dt_swap1 (k := i + d + 1) M (by omega)
    rw [dt_alt d (i := i) _ (by omega) (fun j hj => by
      rw [rwr_ne _ _ _ (by omega), rwr_ne _ _ _ (by omega), rwr_at]
      exact he j hj)] at h1
    grind
theorem dt_alt' {n i k : Nat} (M : Nat → Nat → Fin p) (hi : i < n) (hk : k < n) (hne : i ≠ k) (he : ∀ j, j < n → M i j = M k j) : dt n M = 0 := by
  rcases Nat.lt_or_ge i k with c | c
  · exact dt_alt (k - i - 1) (i := i) M (by omega) (fun j hj => by rw [show i + (k - i - 1) + 1 = k by omega]; exact he j hj)
  · exact dt_alt (i - k - 1) (i := k) M (by omega) (fun j hj => by rw [show k + (i - k - 1) + 1 = i by omega]; exact (he j hj).symm)

/-- two rows exchanged -/
theorem dt_swap {n i k : Nat} (M : Nat → Nat → Fin p) (hi : i < n) (hk : k < n) (hne : i ≠ k) : dt n (fun l => M (sx i k l)) = - dt n M := by
  have key : ∀ u v : Nat → Fin p, dt n (rwr i u (rwr k v M)) + dt n (rwr i v (rwr k u M)) = 0 := fun u v => by
    have h0 := dt_alt' (rwr i (fun j => 1 * u j + 1 * v j) (rwr k (fun j => 1 * u j + 1 * v j) M)) hi hk hne (fun j _ => by rw [rwr_at, rwr_ne _ _ _ (fun e => hne e.symm), rwr_at])
    have hu := dt_alt' (rwr i u (rwr k u M)) hi hk hne (fun j _ => by rw [rwr_at, rwr_ne _ _ _ (fun e => hne e.symm), rwr_at])
    have hv := dt_alt' (rwr i v (rwr k v M)) hi hk hne (fun j _ => by rw [rwr_at, rwr_ne _ _ _ (fun e => hne e.symm), rwr_at])
    rw [dt_lin _ 1 1 u v hi, rwr_comm _ _ _ hne, rwr_comm (r := i) v _ _ hne, dt_lin _ 1 1 u v hk, dt_lin _ 1 1 u v hk, rwr_comm (s := i) _ _ _ (fun e => hne e.symm), rwr_comm (s := i) _ _ _ (fun e => hne e.symm), rwr_comm (s := i) _ _ _ (fun e => hne e.symm), rwr_comm (s := i) _ _ _ (fun e => hne e.symm), hu, hv] at h0
    grind
  have h1 := key (M k) (M i)
  rw [rwr_self, rwr_self] at h1
  have e : (fun l => M (sx i k l)) = rwr i (M k) (rwr k (M i) M) := by
    funext l j
    show M (sx i k l) j = (if l = i then M k j else if l = k then M i j else M l j)
    unfold sx
    by_cases c : l = i
    · rw [if_pos c, if_pos c]
    · rw [if_neg c, if_neg c]
      by_cases c' : l = k
      · rw [if_pos c', if_pos c']
      · rw [if_neg c', if_neg c']
  rw [e]; grind

theorem dt_scale {n r : Nat} (M : Nat → Nat → Fin p) (u : Fin p) (hr : r < n) : dt n (fun l c => if l = r then u * M r c else M l c) = u * dt n M := by
  have h := dt_lin (n := n) M u 0 (M r) (M r) hr
  rw [rwr_self] at h
  rw [show dt n (fun l c => if l = r then u * M r c else M l c) = dt n (rwr r (fun j => u * M r j + 0 * M r j) M) from dt_congr fun i j _ _ => by
    show _ = (if i = r then _ else _)
    by_cases e : i = r
    · rw [if_pos e, if_pos e]; grind
    · rw [if_neg e, if_neg e], h]
  grind

theorem dt_zero {n r : Nat} (M : Nat → Nat → Fin p) (hr : r < n) (h : ∀ j, j < n → M r j = 0) : dt n M = 0 := by
  have h1 := dt_scale (n := n) M 0 hr
  rw [show dt n (fun l c => if l = r then 0 * M r c else M l c) = dt n M from dt_congr fun i j _ hj => by
    by_cases e : i = r
    · rw [if_pos e, e, h j hj]; grind
    · rw [if_neg e]] at h1
  rw [h1]; grind

/-- a multiple of another row taken off -/
theorem dt_add {n r l : Nat} (M : Nat → Nat → Fin p) (q : Fin p) (hr : r < n) (hl : l < n) (hne : l ≠ r) : dt n (rwr l (fun j => M l j - q * M r j) M) = dt n M := by
  have h := dt_lin (n := n) M 1 (-q) (M l) (M r) hl
  rw [rwr_self, dt_alt' (rwr l (M r) M) hl hr hne (fun j _ => by rw [rwr_at, rwr_ne _ _ _ (fun e => hne e.symm)])] at h
  rw [dt_congr (N := rwr l (fun j => 1 * M l j + -q * M r j) M) (fun i j _ _ => by unfold rwr; split <;> grind), h]; grind

/-- multiples of one row taken off the others -/
theorem dt_elim {n r : Nat} (M : Nat → Nat → Fin p) (q : Nat → Fin p) (hr : r < n) : dt n (fun l c => if l = r then M r c else M l c - q l * M r c) = dt n M := by
  have key : ∀ k, k ≤ n → dt n (fun l c => if l = r ∨ k ≤ l then M l c else M l c - q l * M r c) = dt n M := by
    intro k
    induction k with
    | zero => intro _; exact dt_congr fun i j _ _ => if_pos (Or.inr (by omega))
    | succ k ih =>
      intro hk
      by_cases e : k = r
      · rw [← ih (by omega)]
        refine dt_congr fun i j _ _ => ?_
        by_cases c : i = r
        · rw [if_pos (Or.inl c), if_pos (Or.inl c)]
        · by_cases c' : k ≤ i
          · rw [if_pos (Or.inr (by omega)), if_pos (Or.inr c')]
          · rw [if_neg (by omega), if_neg (by omega)]
      · rw [← ih (by omega), ← dt_add (fun l c => if l = r ∨ k ≤ l then M l c else M l c - q l * M r c) (q k) hr (show k < n by omega) e]
        refine dt_congr fun i j _ _ => ?_
        show _ = (if i = k then _ else _)
        simp only []
        by_cases c : i = k
        · subst c
          rw [if_pos rfl, if_neg (by omega), if_pos (Or.inr (Nat.le_refl _)), if_pos (Or.inl trivial)]
        · rw [if_neg c]
          by_cases c' : i = r ∨ k ≤ i
          · rw [if_pos (by omega), if_pos c']
          · rw [if_neg (by omega), if_neg c']
  rw [← key n (Nat.le_refl n)]
  refine dt_congr fun i j hi _ => ?_
  by_cases c : i = r
  · rw [if_pos c, if_pos (Or.inl c), c]
  · rw [if_neg c, if_neg (by omega)]

def idm : Nat → Nat → Fin p := fun i j => if j = i then 1 else 0
theorem dt_one : ∀ n, dt n (idm : Nat → Nat → Fin p) = 1
  | 0 => rfl
  | n + 1 => by
    show sm (n + 1) _ = 1
    rw [sm_one _ (show 0 < n + 1 by omega) (fun i _ hne => by show sg i * (if 0 = i then 1 else 0) * _ = 0; rw [if_neg (fun e => hne e.symm)]; grind)]
    show sg 0 * (if 0 = 0 then 1 else 0) * _ = 1
    rw [dt_congr (N := idm) (fun i j _ _ => ?_), dt_one n]
    · unfold sg; rw [if_pos rfl, if_pos rfl]; grind
    · show (if j + 1 = sk 0 i then (1 : Fin p) else 0) = (if j = i then 1 else 0)
      rw [show sk 0 i = i + 1 by unfold sk; rw [if_neg (by omega)]]
      by_cases c : j = i
      · rw [if_pos c, if_pos (by omega)]
      · rw [if_neg c, if_neg (by omega)]

/-- N comes out of M by operations on rows, which multiply a determinant by c -/
inductive RE (m n : Nat) (M : Nat → Nat → Fin p) : (Nat → Nat → Fin p) → Fin p → Prop
  | refl {N : Nat → Nat → Fin p} : (∀ i j, i < m → j < n → M i j = N i j) → RE m n M N 1
  | swap {N : Nat → Nat → Fin p} {c : Fin p} {i r : Nat} : i < m → r < m → i ≠ r → RE m n M N c → RE m n M (fun l => N (sx i r l)) (-c)
  | scale {N : Nat → Nat → Fin p} {c : Fin p} {r : Nat} (u : Fin p) : r < m → RE m n M N c → RE m n M (fun l j => if l = r then u * N r j else N l j) (u * c)
  | elim {N : Nat → Nat → Fin p} {c : Fin p} {r : Nat} (q : Nat → Fin p) : r < m → RE m n M N c → RE m n M (fun l j => if l = r then N r j else N l j - q l * N r j) c
  | rows {N N' : Nat → Nat → Fin p} {c : Fin p} : RE m n M N c → (∀ i j, i < m → j < n → N i j = N' i j) → RE m n M N' c

theorem RE.det {n : Nat} {M N : Nat → Nat → Fin p} {c : Fin p} (h : RE n n M N c) : dt n N = c * dt n M := by
  induction h with
  | refl e => rw [dt_congr e]; grind
  | swap hi hr hne _ ih => rw [dt_swap _ hi hr hne, ih]; grind
  | scale u hr _ ih => rw [dt_scale _ u hr, ih]; grind
  | elim q hr _ ih => rw [dt_elim _ q hr, ih]
  | rows _ e ih => rw [← dt_congr e, ih]

def mm (n : Nat) (A B : Nat → Nat → Fin p) : Nat → Nat → Fin p := fun i j => sm n (fun k => A i k * B k j)

end Go.Proofs.Ytdlpemmoobbgnaa.laF

namespace Go.Proofs.Ytdlpemmoobbgnaa
open laF

section
variable {q : Nat} [NeZero q] {m n j : Nat}

/-- a column with a pivot: an exchange, a row times a number, multiples of that row taken off -/
theorem RS.step_form (hp : isPB q = true) {s : RS} (hres : Res q m n s.G) (hl : s.P.length ≤ m) (hj : j < n) {P : Nat → Nat} (h : Rref m j s.P.length P (phG q s.G)) {r i : Nat} (hr : r = s.P.length) (hi : i = fnd s.G j (m - r) r) (him : i ≠ m) :
    ∃ (u : Fin q) (v : Nat → Fin q), r < m ∧ i < m ∧ u * ph (s.G i j) = 1 ∧ (s.step q m n j).d = (if i = r then s.d else (q - s.d) % q) * s.G i j % q ∧
      ∀ l c, l < m → c < n → (fun l c => if l = r then (fun l c => if l = r then u * (fun l => phG q s.G (sx i r l)) r c else (fun l => phG q s.G (sx i r l)) l c) r c else (fun l c => if l = r then u * (fun l => phG q s.G (sx i r l)) r c else (fun l => phG q s.G (sx i r l)) l c) l c - v l * (fun l c => if l = r then u * (fun l => phG q s.G (sx i r l)) r c else (fun l => phG q s.G (sx i r l)) l c) r c) l c = phG q (s.step q m n j).G l c := by
  have hb := fnd_bd s.G j (m - s.P.length) s.P.length
  have hne := fnd_ne s.G j (m - s.P.length) s.P.length
  unfold RS.step
  simp only
  rw [← hr] at hb hne h hl ⊢
  rw [← hi] at hb hne ⊢
  rw [if_neg him]
  have hrm : r < m := by omega
  have him' : i < m := by omega
  have hq := isPB_ge q hp
  have hG1 : swF i r s.G r j = s.G i j := by unfold swF; rw [show sw i r r = i by unfold sw; (repeat' split) <;> omega]
  obtain ⟨y, hy⟩ : ∃ y, y = swF i r s.G r j := ⟨_, rfl⟩
  have hy0 : y ≠ 0 := by rw [hy, hG1]; exact hne (by omega)
  have hyb := hres i j him' hj
  rw [← hG1, ← hy] at hyb
  have hu : ph (invm q y) * (ph y : Fin q) = 1 := by
    have := ph_inv hp hyb.1 hyb.2 hy0
    unfold invm
    rw [show ((q : Int) - 2).toNat = q - 2 by omega]; grind
  obtain ⟨u, hu'⟩ : ∃ u : Fin q, u = ph (invm q y) := ⟨_, rfl⟩
  have hz1 : ∀ l c, r ≤ l → l < m → c < j → (ph (swF i r s.G l c) : Fin q) = 0 := fun l c h1 h2 h3 => by
    have hsl : r ≤ sw i r l ∧ sw i r l < m := by unfold sw; (repeat' split) <;> omega
    exact h.rest (sw i r l) c hsl.1 hsl.2 h3
  have e2 : ∀ l c, l < m → c < n → phG q (scF q j r (swF i r s.G)) l c = (fun l c => if l = r then u * phG q (swF i r s.G) r c else phG q (swF i r s.G) l c) l c := fun l c hl hc => by
    show ph (scF q j r (swF i r s.G) l c) = (if l = r then u * ph (swF i r s.G r c) else ph (swF i r s.G l c))
    unfold scF
    by_cases e : l = r
    · rw [if_pos e, if_pos e, ← hy]
      unfold scaleF
      by_cases e' : j ≤ c
      · rw [if_pos e', ph_mod, ph_mul, hu']; grind
      · rw [if_neg e', hz1 r c (Nat.le_refl _) hrm (by omega)]; grind
    · rw [if_neg e, if_neg e]
  have e3 : ∀ l c, l < m → c < n → phG q (elimF q j n r (scF q j r (swF i r s.G)) m) l c =
      (fun l c => if l = r then phG q (scF q j r (swF i r s.G)) r c else phG q (scF q j r (swF i r s.G)) l c - phG q (scF q j r (swF i r s.G)) l j * phG q (scF q j r (swF i r s.G)) r c) l c := fun l c hl hc => by
    show ph (elimF q j n r (scF q j r (swF i r s.G)) m l c) = (if l = r then _ else _)
    unfold elimF
    by_cases e : l = r
    · rw [if_pos e, if_neg (by omega), e]; rfl
    · rw [if_neg e, if_pos ⟨hl, e⟩]
      unfold takeF
      by_cases e' : j ≤ c
      · rw [if_pos ⟨e', hc⟩, ph_mod, ph_add, ph_mul, ph_sub_p]; unfold phG; grind
      · rw [if_neg (by omega)]
        have : phG q (scF q j r (swF i r s.G)) r c = 0 := by
          rw [e2 r c hrm hc]
          show (if r = r then u * ph (swF i r s.G r c) else _) = _
          rw [if_pos rfl, hz1 r c (Nat.le_refl _) hrm (by omega)]; grind
        rw [this]; unfold phG; grind
  refine ⟨u, fun l => phG q (scF q j r (swF i r s.G)) l j, hrm, him', ?_, ?_, ?_⟩
  · rw [← hG1, ← hy, hu']; exact hu
  · rw [hG1]
  · intro l c hl hc
    refine Eq.trans ?_ (e3 l c hl hc).symm
    have g1 := e2 l c hl hc
    have g2 := e2 r c hrm hc
    dsimp only at g1 g2 ⊢
    rw [g1, g2]
    simp only [if_true]
    rfl

theorem RS.run_re (hp : isPB q = true) {G : Nat → Nat → Int} (hres : Res q m n G) : ∀ j, j ≤ n →
    ∃ c : Fin q, RE m n (phG q G) (phG q (RS.run q m n ⟨G, [], 1 % (q : Int)⟩ j).G) c ∧ ph (RS.run q m n ⟨G, [], 1 % (q : Int)⟩ j).d * c = 1
  | 0, _ => ⟨1, RE.refl fun _ _ _ _ => rfl, by
    show (ph (1 % (q : Int)) : Fin q) * 1 = 1
    rw [ph_mod, ph_one]; grind⟩
  | j + 1, hj => by
    obtain ⟨c, h1, h2⟩ := RS.run_re hp hres j (by omega)
    have hq := isPB_ge q hp
    obtain ⟨h3, -⟩ := RS.run_ok hp hres (1 % (q : Int)) j (by omega)
    have hrs := RS.run_res (p := q) (s := ⟨G, [], 1 % (q : Int)⟩) (by omega) (Nat.zero_le _) hres j
    have hln := RS.run_len (p := q) (m := m) (n := n) (s := ⟨G, [], 1 % (q : Int)⟩) (Nat.zero_le _) j
    show ∃ c : Fin q, RE m n (phG q G) (phG q ((RS.run q m n ⟨G, [], 1 % (q : Int)⟩ j).step q m n j).G) c ∧ ph ((RS.run q m n ⟨G, [], 1 % (q : Int)⟩ j).step q m n j).d * c = 1
    generalize RS.run q m n ⟨G, [], 1 % (q : Int)⟩ j = s at *
    by_cases him : fnd s.G j (m - s.P.length) s.P.length = m
    · have e : s.step q m n j = s := by unfold RS.step; simp only; rw [if_pos him]
      rw [e]; exact ⟨c, h1, h2⟩
    · obtain ⟨u, v, g1, g2, g3, g4, g5⟩ := RS.step_form hp hrs hln hj h3 rfl rfl him
      rw [g4]
      generalize fnd s.G j (m - s.P.length) s.P.length = i at *
      generalize s.P.length = r at *
      by_cases e : i = r
      · subst e
        refine ⟨u * c, ((RE.elim v g1 (RE.scale u g1 (h1.rows fun l k _ _ => ?_))).rows g5), ?_⟩
        · show phG q s.G l k = phG q s.G (sx i i l) k
          rw [show sx i i l = l by unfold sx; (repeat' split) <;> omega]
        · rw [if_pos rfl, ph_mod, ph_mul]; grind
      · refine ⟨u * (-c), ((RE.elim v g1 (RE.scale u g1 (RE.swap g2 g1 e h1))).rows g5), ?_⟩
        rw [if_neg e, ph_mod, ph_mul, ph_mod, ph_sub_p]; grind

theorem rref_id {P : Nat → Nat} {N : Nat → Nat → Fin q} (r1 : Rref m m m P N) : ∀ i j, i < m → j < m → N i j = idm i j := by
  have hP : ∀ i, i < m → P i = i := by
    have hge : ∀ i, i < m → i ≤ P i := by
      intro i
      induction i with
      | zero => intro _; omega
      | succ i ih => intro hi; have := ih (by omega); have := r1.mono i (i + 1) (by omega) hi; omega
    have hup : ∀ d i, i + d + 1 = m → P i + d + 1 ≤ m := by
      intro d
      induction d with
      | zero => intro i hi; have := r1.lt i (by omega); omega
      | succ d ih => intro i hi; have := ih (i + 1) (by omega); have := r1.mono i (i + 1) (by omega) (by omega); omega
    intro i hi
    have := hge i hi
    have := hup (m - i - 1) i (by omega)
    omega
  intro i j hi hj
  unfold idm
  by_cases c : j = i
  · subst c
    have := r1.one j hi
    rw [hP j hi] at this
    rw [if_pos rfl, this]
  · have := r1.col i j hi hj (fun e => c e.symm)
    rw [hP j hj] at this
    rw [if_neg c, this]

/-- every square matrix comes, by operations on rows, to the unit matrix or to one with a row of zeros -/
theorem comes (hp : isPB q = true) {G : Nat → Nat → Int} (h : Res q n n G) : ∃ (N : Nat → Nat → Fin q) (c : Fin q), RE n n (phG q G) N c ∧ ph (redS q n n G n).d * c = 1 ∧
    ((¬ (redS q n n G n).P.length < n ∧ ∀ i j, i < n → j < n → N i j = idm i j) ∨ ((redS q n n G n).P.length < n ∧ ∃ r, r < n ∧ ∀ j, j < n → N r j = 0)) := by
  obtain ⟨c, h1, h2⟩ := RS.run_re hp h n (Nat.le_refl n)
  obtain ⟨r1, -⟩ := RS.run_ok hp h (1 % (q : Int)) n (Nat.le_refl n)
  refine ⟨_, c, h1, h2, ?_⟩
  have hle := r1.le
  by_cases e : (redS q n n G n).P.length < n
  · exact Or.inr ⟨e, _, e, fun j hj => r1.rest _ j (Nat.le_refl _) e hj⟩
  · refine Or.inl ⟨e, ?_⟩
    have e' : (RS.run q n n ⟨G, [], 1 % (q : Int)⟩ n).P.length = n := by unfold redS at e; omega
    rw [e'] at r1
    exact rref_id r1

/-- what Det answers is the determinant -/
theorem redS_dt (hp : isPB q = true) {G : Nat → Nat → Int} (h : Res q n n G) : dt n (phG q G) = if (redS q n n G n).P.length < n then 0 else ph (redS q n n G n).d := by
  obtain ⟨N, c, h1, h2, h3⟩ := comes hp h
  have h4 := h1.det
  rcases h3 with ⟨e, g⟩ | ⟨e, r, hr, g⟩
  · rw [if_neg e]
    rw [dt_congr g, dt_one] at h4
    grind
  · rw [if_pos e]
    rw [dt_zero N hr g] at h4
    grind
theorem detM_dt (hp : isPB q = true) (R : Nat) (x : Nat → Raw) : (ph (detM q R x) : Fin q) = dt R (phG q (resG q R x)) := by
  rw [redS_dt hp (resG_res q (by have := isPB_ge q hp; omega) R R R x)]
  unfold detM
  split
  · exact ph_zero
  · rfl

end
end Go.Proofs.Ytdlpemmoobbgnaa

namespace Go.Proofs.Ytdlpemmoobbgnaa
open laF

theorem detM_bd {p : Int} (hp : 2 ≤ p) (R : Nat) (x : Nat → Raw) : 0 ≤ detM p R x ∧ detM p R x < p := by
  unfold detM
  split
  · omega
  · exact RS.run_d (s := ⟨resG p R x, [], 1 % p⟩) (by omega) (by show 0 ≤ 1 % p ∧ 1 % p < p; rw [Int.emod_eq_of_lt (by omega) (by omega)]; omega) R

section
variable {n : Nat} {xa xb xab xt xu xv : Nat → Raw}

end
end Go.Proofs.Ytdlpemmoobbgnaa
