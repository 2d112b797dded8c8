/- Determinants over Fin p, along the first column; what row operations do to them; products. Plain: the program's elimination and determinants modulo a prime: what Det answers is the determinant; products, transposes. Plain: what stands behind ModpDets: products, transposes, the unit matrix, the inverse. The walks of trellisref09.Add and Scale. The walk of trellisref09.Scale. The walks of trellisref09.outside, Zero, Unit and Sub. The walk of trellisref09.Sub. The walk of the law ModpDets. The law ModpDets, whatever is handed in. 'ModpDets', where what it reads is of bulk at most 1,048,576: for every a, b and p the law returns true and its arguments read as before. -/
import Derived.Test.YtdlpemmoobbgnaaGG
import Derived.Test.YtdlpemmoobbgnaaGI
import Derived.Test.YtdlpemmoobbgnaaGK
import Derived.Deep.RegionHeld3
import Derived.Test.YtdlpemmoobbgnaaRows
import Derived.ProofKit
import Derived.OpenShut
import Derived.Carry
import Derived.JoinedCond
set_option linter.unusedVariables false
set_option linter.unusedSimpArgs false
namespace Go.Proofs.Ytdlpemmoobbgnaa.laF
variable {p : Nat} [NeZero p]

/-- the places but i -/
def sk (i k : Nat) : Nat := if k < i then k else k + 1
/-- where r stands among the places but i -/
def us (i r : Nat) : Nat := if r < i then r else r - 1
theorem sk_ne (i k : Nat) : sk i k ≠ i := by unfold sk; split <;> omega
theorem sk_eq {i r k : Nat} (h : r ≠ i) : sk i k = r ↔ k = us i r := by unfold sk us; (repeat' split) <;> omega
theorem sk_lt {i k n : Nat} (hk : k < n) : sk i k < n + 1 := by unfold sk; split <;> omega
theorem us_lt {i r n : Nat} (hr : r < n + 1) (hi : i < n + 1) (h : r ≠ i) : us i r < n := by unfold us; split <;> omega

def mnr {α : Type} (i : Nat) (M : Nat → Nat → α) : Nat → Nat → α := fun r c => M (sk i r) (c + 1)
def sg (i : Nat) : Fin p := if i % 2 = 0 then 1 else -1
theorem sg_succ (i : Nat) : (sg (i + 1) : Fin p) = - sg i := by
  unfold sg
  by_cases h : i % 2 = 0
  · rw [if_pos h, if_neg (by omega)]
  · rw [if_neg h, if_pos (by omega)]; grind

def dt : Nat → (Nat → Nat → Fin p) → Fin p
  | 0, _ => 1
  | n + 1, M => sm (n + 1) (fun i => sg i * M i 0 * dt n (mnr i M))

theorem dt_congr : ∀ {n : Nat} {M N : Nat → Nat → Fin p}, (∀ i j, i < n → j < n → M i j = N i j) → dt n M = dt n N
  | 0, _, _, _ => rfl
  | n + 1, M, N, h => sm_congr fun i hi => by
    rw [h i 0 hi (by omega), dt_congr (n := n) (M := mnr i M) (N := mnr i N) fun r c hr hc => h _ _ (sk_lt hr) (by omega)]

/-- the row r replaced -/
def rwr {α : Type} (r : Nat) (v : Nat → α) (M : Nat → Nat → α) : Nat → Nat → α := fun i j => if i = r then v j else M i j
theorem rwr_at {α : Type} (r : Nat) (v : Nat → α) (M : Nat → Nat → α) (j : Nat) : rwr r v M r j = v j := if_pos rfl
theorem rwr_ne {α : Type} {r i : Nat} (v : Nat → α) (M : Nat → Nat → α) (j : Nat) (h : i ≠ r) : rwr r v M i j = M i j := if_neg h
theorem rwr_self {α : Type} (r : Nat) (M : Nat → Nat → α) : rwr r (M r) M = M := by
  funext i j; unfold rwr; split
  · rename_i e; rw [e]
  · rfl
theorem rwr_rwr {α : Type} (r : Nat) (u v : Nat → α) (M : Nat → Nat → α) : rwr r u (rwr r v M) = rwr r u M := by
  funext i j; unfold rwr; split <;> rfl
theorem rwr_comm {α : Type} {r s : Nat} (u v : Nat → α) (M : Nat → Nat → α) (h : r ≠ s) : rwr r u (rwr s v M) = rwr s v (rwr r u M) := by
  funext i j; unfold rwr
  by_cases e : i = r
  · rw [if_pos e, if_neg (by omega), if_pos e]
  · rw [if_neg e, if_neg e]
theorem mnr_rwr_same {α : Type} (r : Nat) (v : Nat → α) (M : Nat → Nat → α) : mnr r (rwr r v M) = mnr r M := by
  funext i j; unfold mnr; exact rwr_ne _ _ _ (sk_ne r i)
theorem mnr_rwr {α : Type} {i r : Nat} (v : Nat → α) (M : Nat → Nat → α) (h : r ≠ i) : mnr i (rwr r v M) = rwr (us i r) (fun j => v (j + 1)) (mnr i M) := by
  funext k j
  show (if sk i k = r then _ else _) = (if k = us i r then _ else _)
  by_cases e : k = us i r
  · rw [if_pos e, if_pos ((sk_eq h).2 e)]
  · rw [if_neg e, if_neg (fun e' => e ((sk_eq h).1 e'))]; rfl

theorem dt_lin : ∀ {n r : Nat} (M : Nat → Nat → Fin p) (a b : Fin p) (u v : Nat → Fin p), r < n → dt n (rwr r (fun j => a * u j + b * v j) M) = a * dt n (rwr r u M) + b * dt n (rwr r v M)
  | 0, _, _, _, _, _, _, h => absurd h (by omega)
  | n + 1, r, M, a, b, u, v, h => by
    show sm (n + 1) _ = a * sm (n + 1) _ + b * sm (n + 1) _
    rw [← sm_mul, ← sm_mul, ← sm_add]
    refine sm_congr fun i hi => ?_
    show sg i * rwr r (fun j => a * u j + b * v j) M i 0 * dt n (mnr i (rwr r (fun j => a * u j + b * v j) M)) = a * (sg i * rwr r u M i 0 * dt n (mnr i (rwr r u M))) + b * (sg i * rwr r v M i 0 * dt n (mnr i (rwr r v M)))
    by_cases e : i = r
    · subst e
      rw [mnr_rwr_same, mnr_rwr_same, mnr_rwr_same, rwr_at, rwr_at, rwr_at]; grind
    · rw [rwr_ne _ _ _ e, rwr_ne _ _ _ e, rwr_ne _ _ _ e, mnr_rwr _ _ (fun e' => e e'.symm), mnr_rwr _ _ (fun e' => e e'.symm), mnr_rwr _ _ (fun e' => e e'.symm)]
      rw [dt_lin (mnr i M) a b (fun j => u (j + 1)) (fun j => v (j + 1)) (us_lt h hi (fun e' => e e'.symm))]; grind

theorem sm_two {n k : Nat} (f : Nat → Fin p) (hk : k + 1 < n) (h : ∀ i, i < n → i ≠ k → i ≠ k + 1 → f i = 0) : sm n f = f k + f (k + 1) := by
  induction n with
  | zero => omega
  | succ n ih =>
    simp only [sm]
    by_cases e : k + 1 = n
    · subst e
      rw [sm_one f (show k < k + 1 by omega) (fun i hi hne => h i (by omega) hne (by omega))]
    · rw [ih (by omega) (fun i hi => h i (by omega)), h n (by omega) (by omega) (by omega)]; grind

/-- two neighbours alike -/
theorem dt_alt1 : ∀ {n k : Nat} (M : Nat → Nat → Fin p), k + 1 < n → (∀ j, j < n → M k j = M (k + 1) j) → dt n M = 0
  | 0, _, _, h, _ => absurd h (by omega)
  | n + 1, k, M, h, he => by
    show sm (n + 1) _ = 0
    rw [sm_two (k := k) _ h (fun i hi h1 h2 => ?_)]
    · have e1 : dt n (mnr k M) = dt n (mnr (k + 1) M) := dt_congr fun r c hr hc => by
        show M (sk k r) (c + 1) = M (sk (k + 1) r) (c + 1)
        by_cases e : r = k
        · subst e
          rw [show sk r r = r + 1 by unfold sk; rw [if_neg (by omega)], show sk (r + 1) r = r by unfold sk; rw [if_pos (by omega)], he _ (by omega)]
        · rw [show sk k r = sk (k + 1) r by unfold sk; (repeat' split) <;> omega]
      rw [e1, he 0 (by omega), sg_succ]; grind
    · have hlt : us i k + 1 < n := by unfold us; split <;> omega
      rw [dt_alt1 (k := us i k) (mnr i M) hlt (fun j hj => by
        show M (sk i (us i k)) (j + 1) = M (sk i (us i k + 1)) (j + 1)
        rw [(sk_eq (fun e => h1 e.symm)).2 rfl, show sk i (us i k + 1) = k + 1 by unfold sk us; (repeat' split) <;> omega]
        exact he _ (by omega))]
      grind

/-- two neighbours exchanged -/
theorem dt_swap1 {n k : Nat} (M : Nat → Nat → Fin p) (h : k + 1 < n) : dt n (rwr k (M (k + 1)) (rwr (k + 1) (M k) M)) = - dt n M := by
  have key : ∀ u v : Nat → Fin p, dt n (rwr k u (rwr (k + 1) v M)) + dt n (rwr k v (rwr (k + 1) u M)) = 0 := fun u v => by
    have h0 := dt_alt1 (k := k) (rwr k (fun j => 1 * u j + 1 * v j) (rwr (k + 1) (fun j => 1 * u j + 1 * v j) M)) h (fun j _ => by rw [rwr_at, rwr_ne _ _ _ (by omega), rwr_at])
    have hu := dt_alt1 (k := k) (rwr k u (rwr (k + 1) u M)) h (fun j _ => by rw [rwr_at, rwr_ne _ _ _ (by omega), rwr_at])
    have hv := dt_alt1 (k := k) (rwr k v (rwr (k + 1) v M)) h (fun j _ => by rw [rwr_at, rwr_ne _ _ _ (by omega), rwr_at])
    rw [dt_lin _ 1 1 u v (by omega), rwr_comm _ _ _ (by omega), rwr_comm (r := k) v _ _ (by omega), dt_lin _ 1 1 u v (by omega), dt_lin _ 1 1 u v (by omega), rwr_comm (s := k) _ _ _ (by omega), rwr_comm (s := k) _ _ _ (by omega), rwr_comm (s := k) _ _ _ (by omega), rwr_comm (s := k) _ _ _ (by omega), hu, hv] at h0
    grind
  have h1 := key (M (k + 1)) (M k)
  rw [rwr_self, rwr_self] at h1
  grind

/-- two rows alike -/
theorem dt_alt {n : Nat} : ∀ (d : Nat) {i : Nat} (M : Nat → Nat → Fin p), i + d + 1 < n → (∀ j, j < n → M i j = M (i + d + 1) j) → dt n M = 0
  | 0, _, M, h, he => dt_alt1 M h he
  | d + 1, i, M, h, he => by
    have h1 := dt_swap1 (k := i + d + 1) M (by omega)
    rw [dt_alt d (i := i) _ (by omega) (fun j hj => by
      rw [rwr_ne _ _ _ (by omega), rwr_ne _ _ _ (by omega), rwr_at]
      exact he j hj)] at h1
    grind
theorem dt_alt' {n i k : Nat} (M : Nat → Nat → Fin p) (hi : i < n) (hk : k < n) (hne : i ≠ k) (he : ∀ j, j < n → M i j = M k j) : dt n M = 0 := by
  rcases Nat.lt_or_ge i k with c | c
  · exact dt_alt (k - i - 1) (i := i) M (by omega) (fun j hj => by rw [show i + (k - i - 1) + 1 = k by omega]; exact he j hj)
  · exact dt_alt (i - k - 1) (i := k) M (by omega) (fun j hj => by rw [show k + (i - k - 1) + 1 = i by omega]; exact (he j hj).symm)

/-- two rows exchanged -/
theorem dt_swap {n i k : Nat} (M : Nat → Nat → Fin p) (hi : i < n) (hk : k < n) (hne : i ≠ k) : dt n (fun l => M (sx i k l)) = - dt n M := by
  have key : ∀ u v : Nat → Fin p, dt n (rwr i u (rwr k v M)) + dt n (rwr i v (rwr k u M)) = 0 := fun u v => by
    have h0 := dt_alt' (rwr i (fun j => 1 * u j + 1 * v j) (rwr k (fun j => 1 * u j + 1 * v j) M)) hi hk hne (fun j _ => by rw [rwr_at, rwr_ne _ _ _ (fun e => hne e.symm), rwr_at])
    have hu := dt_alt' (rwr i u (rwr k u M)) hi hk hne (fun j _ => by rw [rwr_at, rwr_ne _ _ _ (fun e => hne e.symm), rwr_at])
    have hv := dt_alt' (rwr i v (rwr k v M)) hi hk hne (fun j _ => by rw [rwr_at, rwr_ne _ _ _ (fun e => hne e.symm), rwr_at])
    rw [dt_lin _ 1 1 u v hi, rwr_comm _ _ _ hne, rwr_comm (r := i) v _ _ hne, dt_lin _ 1 1 u v hk, dt_lin _ 1 1 u v hk, rwr_comm (s := i) _ _ _ (fun e => hne e.symm), rwr_comm (s := i) _ _ _ (fun e => hne e.symm), rwr_comm (s := i) _ _ _ (fun e => hne e.symm), rwr_comm (s := i) _ _ _ (fun e => hne e.symm), hu, hv] at h0
    grind
  have h1 := key (M k) (M i)
  rw [rwr_self, rwr_self] at h1
  have e : (fun l => M (sx i k l)) = rwr i (M k) (rwr k (M i) M) := by
    funext l j
    show M (sx i k l) j = (if l = i then M k j else if l = k then M i j else M l j)
    unfold sx
    by_cases c : l = i
    · rw [if_pos c, if_pos c]
    · rw [if_neg c, if_neg c]
      by_cases c' : l = k
      · rw [if_pos c', if_pos c']
      · rw [if_neg c', if_neg c']
  rw [e]; grind

theorem dt_scale {n r : Nat} (M : Nat → Nat → Fin p) (u : Fin p) (hr : r < n) : dt n (fun l c => if l = r then u * M r c else M l c) = u * dt n M := by
  have h := dt_lin (n := n) M u 0 (M r) (M r) hr
  rw [rwr_self] at h
  rw [show dt n (fun l c => if l = r then u * M r c else M l c) = dt n (rwr r (fun j => u * M r j + 0 * M r j) M) from dt_congr fun i j _ _ => by
    show _ = (if i = r then _ else _)
    by_cases e : i = r
    · rw [if_pos e, if_pos e]; grind
    · rw [if_neg e, if_neg e], h]
  grind

theorem dt_zero {n r : Nat} (M : Nat → Nat → Fin p) (hr : r < n) (h : ∀ j, j < n → M r j = 0) : dt n M = 0 := by
  have h1 := dt_scale (n := n) M 0 hr
  rw [show dt n (fun l c => if l = r then 0 * M r c else M l c) = dt n M from dt_congr fun i j _ hj => by
    by_cases e : i = r
    · rw [if_pos e, e, h j hj]; grind
    · rw [if_neg e]] at h1
  rw [h1]; grind

/-- a multiple of another row taken off -/
theorem dt_add {n r l : Nat} (M : Nat → Nat → Fin p) (q : Fin p) (hr : r < n) (hl : l < n) (hne : l ≠ r) : dt n (rwr l (fun j => M l j - q * M r j) M) = dt n M := by
  have h := dt_lin (n := n) M 1 (-q) (M l) (M r) hl
  rw [rwr_self, dt_alt' (rwr l (M r) M) hl hr hne (fun j _ => by rw [rwr_at, rwr_ne _ _ _ (fun e => hne e.symm)])] at h
  rw [dt_congr (N := rwr l (fun j => 1 * M l j + -q * M r j) M) (fun i j _ _ => by unfold rwr; split <;> grind), h]; grind

/-- multiples of one row taken off the others -/
theorem dt_elim {n r : Nat} (M : Nat → Nat → Fin p) (q : Nat → Fin p) (hr : r < n) : dt n (fun l c => if l = r then M r c else M l c - q l * M r c) = dt n M := by
  have key : ∀ k, k ≤ n → dt n (fun l c => if l = r ∨ k ≤ l then M l c else M l c - q l * M r c) = dt n M := by
    intro k
    induction k with
    | zero => intro _; exact dt_congr fun i j _ _ => if_pos (Or.inr (by omega))
    | succ k ih =>
      intro hk
      by_cases e : k = r
      · rw [← ih (by omega)]
        refine dt_congr fun i j _ _ => ?_
        by_cases c : i = r
        · rw [if_pos (Or.inl c), if_pos (Or.inl c)]
        · by_cases c' : k ≤ i
          · rw [if_pos (Or.inr (by omega)), if_pos (Or.inr c')]
          · rw [if_neg (by omega), if_neg (by omega)]
      · rw [← ih (by omega), ← dt_add (fun l c => if l = r ∨ k ≤ l then M l c else M l c - q l * M r c) (q k) hr (show k < n by omega) e]
        refine dt_congr fun i j _ _ => ?_
        show _ = (if i = k then _ else _)
        simp only []
        by_cases c : i = k
        · subst c
          rw [if_pos rfl, if_neg (by omega), if_pos (Or.inr (Nat.le_refl _)), if_pos (Or.inl trivial)]
        · rw [if_neg c]
          by_cases c' : i = r ∨ k ≤ i
          · rw [if_pos (by omega), if_pos c']
          · rw [if_neg (by omega), if_neg c']
  rw [← key n (Nat.le_refl n)]
  refine dt_congr fun i j hi _ => ?_
  by_cases c : i = r
  · rw [if_pos c, if_pos (Or.inl c), c]
  · rw [if_neg c, if_neg (by omega)]

def idm : Nat → Nat → Fin p := fun i j => if j = i then 1 else 0
theorem dt_one : ∀ n, dt n (idm : Nat → Nat → Fin p) = 1
  | 0 => rfl
  | n + 1 => by
    show sm (n + 1) _ = 1
    rw [sm_one _ (show 0 < n + 1 by omega) (fun i _ hne => by show sg i * (if 0 = i then 1 else 0) * _ = 0; rw [if_neg (fun e => hne e.symm)]; grind)]
    show sg 0 * (if 0 = 0 then 1 else 0) * _ = 1
    rw [dt_congr (N := idm) (fun i j _ _ => ?_), dt_one n]
    · unfold sg; rw [if_pos rfl, if_pos rfl]; grind
    · show (if j + 1 = sk 0 i then (1 : Fin p) else 0) = (if j = i then 1 else 0)
      rw [show sk 0 i = i + 1 by unfold sk; rw [if_neg (by omega)]]
      by_cases c : j = i
      · rw [if_pos c, if_pos (by omega)]
      · rw [if_neg c, if_neg (by omega)]

/-- N comes out of M by operations on rows, which multiply a determinant by c -/
inductive RE (m n : Nat) (M : Nat → Nat → Fin p) : (Nat → Nat → Fin p) → Fin p → Prop
  | refl {N : Nat → Nat → Fin p} : (∀ i j, i < m → j < n → M i j = N i j) → RE m n M N 1
  | swap {N : Nat → Nat → Fin p} {c : Fin p} {i r : Nat} : i < m → r < m → i ≠ r → RE m n M N c → RE m n M (fun l => N (sx i r l)) (-c)
  | scale {N : Nat → Nat → Fin p} {c : Fin p} {r : Nat} (u : Fin p) : r < m → RE m n M N c → RE m n M (fun l j => if l = r then u * N r j else N l j) (u * c)
  | elim {N : Nat → Nat → Fin p} {c : Fin p} {r : Nat} (q : Nat → Fin p) : r < m → RE m n M N c → RE m n M (fun l j => if l = r then N r j else N l j - q l * N r j) c
  | rows {N N' : Nat → Nat → Fin p} {c : Fin p} : RE m n M N c → (∀ i j, i < m → j < n → N i j = N' i j) → RE m n M N' c

theorem RE.det {n : Nat} {M N : Nat → Nat → Fin p} {c : Fin p} (h : RE n n M N c) : dt n N = c * dt n M := by
  induction h with
  | refl e => rw [dt_congr e]; grind
  | swap hi hr hne _ ih => rw [dt_swap _ hi hr hne, ih]; grind
  | scale u hr _ ih => rw [dt_scale _ u hr, ih]; grind
  | elim q hr _ ih => rw [dt_elim _ q hr, ih]
  | rows _ e ih => rw [← dt_congr e, ih]

def mm (n : Nat) (A B : Nat → Nat → Fin p) : Nat → Nat → Fin p := fun i j => sm n (fun k => A i k * B k j)

theorem mm_scale {n r : Nat} (N B : Nat → Nat → Fin p) (u : Fin p) (i j : Nat) : (if i = r then u * mm n N B r j else mm n N B i j) = mm n (fun l c => if l = r then u * N r c else N l c) B i j := by
  unfold mm
  by_cases e : i = r
  · rw [if_pos e, ← sm_mul]
    exact sm_congr fun k _ => by simp only [if_pos e]; grind
  · rw [if_neg e]
    exact sm_congr fun k _ => by simp only [if_neg e]
theorem mm_elim {n r : Nat} (N B : Nat → Nat → Fin p) (q : Nat → Fin p) (i j : Nat) : (if i = r then mm n N B r j else mm n N B i j - q i * mm n N B r j) = mm n (fun l c => if l = r then N r c else N l c - q l * N r c) B i j := by
  unfold mm
  by_cases e : i = r
  · rw [if_pos e]
    exact sm_congr fun k _ => by simp only [if_pos e]
  · rw [if_neg e, show sm n (fun k => N i k * B k j) - q i * sm n (fun k => N r k * B k j) = sm n (fun k => N i k * B k j) + sm n (fun k => (-q i) * (N r k * B k j)) by rw [sm_mul]; grind, ← sm_add]
    exact sm_congr fun k _ => by simp only [if_neg e]; grind

theorem RE.mul {m n l : Nat} {M N : Nat → Nat → Fin p} {c : Fin p} (h : RE m n M N c) (B : Nat → Nat → Fin p) : RE m l (mm n M B) (mm n N B) c := by
  induction h with
  | refl e => exact RE.refl fun i j hi _ => sm_congr fun k hk => by rw [e i k hi hk]
  | swap hi hr hne _ ih => exact RE.swap hi hr hne ih
  | scale u hr _ ih => exact (RE.scale u hr ih).rows fun i j _ _ => mm_scale _ _ _ _ _
  | elim q hr _ ih => exact (RE.elim q hr ih).rows fun i j _ _ => mm_elim _ _ _ _ _
  | rows _ e ih => exact ih.rows fun i j hi _ => sm_congr fun k hk => by rw [e i k hi hk]

theorem mm_id {m n : Nat} {B : Nat → Nat → Fin p} (i j : Nat) (hi : i < m) : mm m idm B i j = B i j := by
  show sm m _ = _
  rw [sm_one _ hi (fun k _ hne => by show (if k = i then (1 : Fin p) else 0) * _ = 0; rw [if_neg hne]; grind)]
  show (if i = i then (1 : Fin p) else 0) * _ = _
  rw [if_pos rfl]; grind

/-- the determinant of a product, if the left one comes to the unit matrix, or to a matrix with a row of zeros -/
theorem dt_mm_of {n : Nat} {A N B : Nat → Nat → Fin p} {c d : Fin p} (h : RE n n A N c) (hd : d * c = 1) (hN : (∀ i j, i < n → j < n → N i j = idm i j) ∨ ∃ r, r < n ∧ ∀ j, j < n → N r j = 0) : dt n (mm n A B) = dt n A * dt n B := by
  have h1 := h.det
  have h2 := (h.mul (l := n) B).det
  rcases hN with e | ⟨r, hr, e⟩
  · rw [dt_congr e, dt_one] at h1
    rw [show dt n (mm n N B) = dt n B from dt_congr fun i j hi hj => by
      rw [← mm_id (m := n) (n := n) (B := B) i j hi]; exact sm_congr fun k hk => by rw [e i k hi hk]] at h2
    grind
  · rw [dt_zero _ hr e] at h1
    rw [dt_zero (r := r) _ hr (fun j _ => sm_zero fun k hk => by rw [e k hk]; grind)] at h2
    grind

end Go.Proofs.Ytdlpemmoobbgnaa.laF

namespace Go.Proofs.Ytdlpemmoobbgnaa
open laF

/-- a matrix over the residues, as numbers -/
def liftG {q : Nat} (A : Nat → Nat → Fin q) : Nat → Nat → Int := fun i j => ((A i j).val : Int)
theorem lift_res {q : Nat} (A : Nat → Nat → Fin q) (m n : Nat) : Res q m n (liftG A) := fun i j _ _ => ⟨by unfold liftG; omega, by unfold liftG; have := (A i j).isLt; omega⟩

section
variable {q : Nat} [NeZero q] {m n j : Nat}

/-- a column with a pivot: an exchange, a row times a number, multiples of that row taken off -/
theorem RS.step_form (hp : isPB q = true) {s : RS} (hres : Res q m n s.G) (hl : s.P.length ≤ m) (hj : j < n) {P : Nat → Nat} (h : Rref m j s.P.length P (phG q s.G)) {r i : Nat} (hr : r = s.P.length) (hi : i = fnd s.G j (m - r) r) (him : i ≠ m) :
    ∃ (u : Fin q) (v : Nat → Fin q), r < m ∧ i < m ∧ u * ph (s.G i j) = 1 ∧ (s.step q m n j).d = (if i = r then s.d else (q - s.d) % q) * s.G i j % q ∧
      ∀ l c, l < m → c < n → (fun l c => if l = r then (fun l c => if l = r then u * (fun l => phG q s.G (sx i r l)) r c else (fun l => phG q s.G (sx i r l)) l c) r c else (fun l c => if l = r then u * (fun l => phG q s.G (sx i r l)) r c else (fun l => phG q s.G (sx i r l)) l c) l c - v l * (fun l c => if l = r then u * (fun l => phG q s.G (sx i r l)) r c else (fun l => phG q s.G (sx i r l)) l c) r c) l c = phG q (s.step q m n j).G l c := by
  have hb := fnd_bd s.G j (m - s.P.length) s.P.length
  have hne := fnd_ne s.G j (m - s.P.length) s.P.length
  unfold RS.step
  simp only
  rw [← hr] at hb hne h hl ⊢
  rw [← hi] at hb hne ⊢
  rw [if_neg him]
  have hrm : r < m := by omega
  have him' : i < m := by omega
  have hq := isPB_ge q hp
  have hG1 : swF i r s.G r j = s.G i j := by unfold swF; rw [show sw i r r = i by unfold sw; (repeat' split) <;> omega]
  obtain ⟨y, hy⟩ : ∃ y, y = swF i r s.G r j := ⟨_, rfl⟩
  have hy0 : y ≠ 0 := by rw [hy, hG1]; exact hne (by omega)
  have hyb := hres i j him' hj
  rw [← hG1, ← hy] at hyb
  have hu : ph (invm q y) * (ph y : Fin q) = 1 := by
    have := ph_inv hp hyb.1 hyb.2 hy0
    unfold invm
    rw [show ((q : Int) - 2).toNat = q - 2 by omega]; grind
  obtain ⟨u, hu'⟩ : ∃ u : Fin q, u = ph (invm q y) := ⟨_, rfl⟩
  have hz1 : ∀ l c, r ≤ l → l < m → c < j → (ph (swF i r s.G l c) : Fin q) = 0 := fun l c h1 h2 h3 => by
    have hsl : r ≤ sw i r l ∧ sw i r l < m := by unfold sw; (repeat' split) <;> omega
    exact h.rest (sw i r l) c hsl.1 hsl.2 h3
  have e2 : ∀ l c, l < m → c < n → phG q (scF q j r (swF i r s.G)) l c = (fun l c => if l = r then u * phG q (swF i r s.G) r c else phG q (swF i r s.G) l c) l c := fun l c hl hc => by
    show ph (scF q j r (swF i r s.G) l c) = (if l = r then u * ph (swF i r s.G r c) else ph (swF i r s.G l c))
    unfold scF
    by_cases e : l = r
    · rw [if_pos e, if_pos e, ← hy]
      unfold scaleF
      by_cases e' : j ≤ c
      · rw [if_pos e', ph_mod, ph_mul, hu']; grind
      · rw [if_neg e', hz1 r c (Nat.le_refl _) hrm (by omega)]; grind
    · rw [if_neg e, if_neg e]
  have e3 : ∀ l c, l < m → c < n → phG q (elimF q j n r (scF q j r (swF i r s.G)) m) l c =
      (fun l c => if l = r then phG q (scF q j r (swF i r s.G)) r c else phG q (scF q j r (swF i r s.G)) l c - phG q (scF q j r (swF i r s.G)) l j * phG q (scF q j r (swF i r s.G)) r c) l c := fun l c hl hc => by
    show ph (elimF q j n r (scF q j r (swF i r s.G)) m l c) = (if l = r then _ else _)
    unfold elimF
    by_cases e : l = r
    · rw [if_pos e, if_neg (by omega), e]; rfl
    · rw [if_neg e, if_pos ⟨hl, e⟩]
      unfold takeF
      by_cases e' : j ≤ c
      · rw [if_pos ⟨e', hc⟩, ph_mod, ph_add, ph_mul, ph_sub_p]; unfold phG; grind
      · rw [if_neg (by omega)]
        have : phG q (scF q j r (swF i r s.G)) r c = 0 := by
          rw [e2 r c hrm hc]
          show (if r = r then u * ph (swF i r s.G r c) else _) = _
          rw [if_pos rfl, hz1 r c (Nat.le_refl _) hrm (by omega)]; grind
        rw [this]; unfold phG; grind
  refine ⟨u, fun l => phG q (scF q j r (swF i r s.G)) l j, hrm, him', ?_, ?_, ?_⟩
  · rw [← hG1, ← hy, hu']; exact hu
  · rw [hG1]
  · intro l c hl hc
    refine Eq.trans ?_ (e3 l c hl hc).symm
    have g1 := e2 l c hl hc
    have g2 := e2 r c hrm hc
    dsimp only at g1 g2 ⊢
    rw [g1, g2]
    simp only [if_true]
    rfl

theorem RS.run_re (hp : isPB q = true) {G : Nat → Nat → Int} (hres : Res q m n G) : ∀ j, j ≤ n →
    ∃ c : Fin q, RE m n (phG q G) (phG q (RS.run q m n ⟨G, [], 1 % (q : Int)⟩ j).G) c ∧ ph (RS.run q m n ⟨G, [], 1 % (q : Int)⟩ j).d * c = 1
  | 0, _ => ⟨1, RE.refl fun _ _ _ _ => rfl, by
    show (ph (1 % (q : Int)) : Fin q) * 1 = 1
    rw [ph_mod, ph_one]; grind⟩
  | j + 1, hj => by
    obtain ⟨c, h1, h2⟩ := RS.run_re hp hres j (by omega)
    have hq := isPB_ge q hp
    obtain ⟨h3, -⟩ := RS.run_ok hp hres (1 % (q : Int)) j (by omega)
    have hrs := RS.run_res (p := q) (s := ⟨G, [], 1 % (q : Int)⟩) (by omega) (Nat.zero_le _) hres j
    have hln := RS.run_len (p := q) (m := m) (n := n) (s := ⟨G, [], 1 % (q : Int)⟩) (Nat.zero_le _) j
    show ∃ c : Fin q, RE m n (phG q G) (phG q ((RS.run q m n ⟨G, [], 1 % (q : Int)⟩ j).step q m n j).G) c ∧ ph ((RS.run q m n ⟨G, [], 1 % (q : Int)⟩ j).step q m n j).d * c = 1
    generalize RS.run q m n ⟨G, [], 1 % (q : Int)⟩ j = s at *
    by_cases him : fnd s.G j (m - s.P.length) s.P.length = m
    · have e : s.step q m n j = s := by unfold RS.step; simp only; rw [if_pos him]
      rw [e]; exact ⟨c, h1, h2⟩
    · obtain ⟨u, v, g1, g2, g3, g4, g5⟩ := RS.step_form hp hrs hln hj h3 rfl rfl him
      rw [g4]
      generalize fnd s.G j (m - s.P.length) s.P.length = i at *
      generalize s.P.length = r at *
      by_cases e : i = r
      · subst e
        refine ⟨u * c, ((RE.elim v g1 (RE.scale u g1 (h1.rows fun l k _ _ => ?_))).rows g5), ?_⟩
        · show phG q s.G l k = phG q s.G (sx i i l) k
          rw [show sx i i l = l by unfold sx; (repeat' split) <;> omega]
        · rw [if_pos rfl, ph_mod, ph_mul]; grind
      · refine ⟨u * (-c), ((RE.elim v g1 (RE.scale u g1 (RE.swap g2 g1 e h1))).rows g5), ?_⟩
        rw [if_neg e, ph_mod, ph_mul, ph_mod, ph_sub_p]; grind

theorem rref_id {P : Nat → Nat} {N : Nat → Nat → Fin q} (r1 : Rref m m m P N) : ∀ i j, i < m → j < m → N i j = idm i j := by
  have hP : ∀ i, i < m → P i = i := by
    have hge : ∀ i, i < m → i ≤ P i := by
      intro i
      induction i with
      | zero => intro _; omega
      | succ i ih => intro hi; have := ih (by omega); have := r1.mono i (i + 1) (by omega) hi; omega
    have hup : ∀ d i, i + d + 1 = m → P i + d + 1 ≤ m := by
      intro d
      induction d with
      | zero => intro i hi; have := r1.lt i (by omega); omega
      | succ d ih => intro i hi; have := ih (i + 1) (by omega); have := r1.mono i (i + 1) (by omega) (by omega); omega
    intro i hi
    have := hge i hi
    have := hup (m - i - 1) i (by omega)
    omega
  intro i j hi hj
  unfold idm
  by_cases c : j = i
  · subst c
    have := r1.one j hi
    rw [hP j hi] at this
    rw [if_pos rfl, this]
  · have := r1.col i j hi hj (fun e => c e.symm)
    rw [hP j hj] at this
    rw [if_neg c, this]

/-- every square matrix comes, by operations on rows, to the unit matrix or to one with a row of zeros -/
theorem comes (hp : isPB q = true) {G : Nat → Nat → Int} (h : Res q n n G) : ∃ (N : Nat → Nat → Fin q) (c : Fin q), RE n n (phG q G) N c ∧ ph (redS q n n G n).d * c = 1 ∧
    ((¬ (redS q n n G n).P.length < n ∧ ∀ i j, i < n → j < n → N i j = idm i j) ∨ ((redS q n n G n).P.length < n ∧ ∃ r, r < n ∧ ∀ j, j < n → N r j = 0)) := by
  obtain ⟨c, h1, h2⟩ := RS.run_re hp h n (Nat.le_refl n)
  obtain ⟨r1, -⟩ := RS.run_ok hp h (1 % (q : Int)) n (Nat.le_refl n)
  refine ⟨_, c, h1, h2, ?_⟩
  have hle := r1.le
  by_cases e : (redS q n n G n).P.length < n
  · exact Or.inr ⟨e, _, e, fun j hj => r1.rest _ j (Nat.le_refl _) e hj⟩
  · refine Or.inl ⟨e, ?_⟩
    have e' : (RS.run q n n ⟨G, [], 1 % (q : Int)⟩ n).P.length = n := by unfold redS at e; omega
    rw [e'] at r1
    exact rref_id r1

/-- what Det answers is the determinant -/
theorem redS_dt (hp : isPB q = true) {G : Nat → Nat → Int} (h : Res q n n G) : dt n (phG q G) = if (redS q n n G n).P.length < n then 0 else ph (redS q n n G n).d := by
  obtain ⟨N, c, h1, h2, h3⟩ := comes hp h
  have h4 := h1.det
  rcases h3 with ⟨e, g⟩ | ⟨e, r, hr, g⟩
  · rw [if_neg e]
    rw [dt_congr g, dt_one] at h4
    grind
  · rw [if_pos e]
    rw [dt_zero N hr g] at h4
    grind
theorem detM_dt (hp : isPB q = true) (R : Nat) (x : Nat → Raw) : (ph (detM q R x) : Fin q) = dt R (phG q (resG q R x)) := by
  rw [redS_dt hp (resG_res q (by have := isPB_ge q hp; omega) R R R x)]
  unfold detM
  split
  · exact ph_zero
  · rfl

theorem phG_lift (A : Nat → Nat → Fin q) : phG q (liftG A) = A := by
  funext i j
  apply fin_ext
  show (((ph ((A i j).val : Int) : Fin q).val : Nat) : Int) = _
  rw [ph_val, Int.emod_eq_of_lt (by omega) (by have := (A i j).isLt; omega)]

theorem dt_mul (hp : isPB q = true) (A B : Nat → Nat → Fin q) : dt n (mm n A B) = dt n A * dt n B := by
  obtain ⟨N, c, h1, h2, h3⟩ := comes (n := n) hp (lift_res A n n)
  rw [phG_lift] at h1
  refine dt_mm_of h1 h2 ?_
  rcases h3 with ⟨-, g⟩ | ⟨-, g⟩
  · exact Or.inl g
  · exact Or.inr g

theorem dt_addmany {r : Nat} (M : Nat → Nat → Fin q) (v : Nat → Fin q) (hr : r < n) : ∀ k, k ≤ n → dt n (rwr r (fun j => M r j - sm k (fun l => if l = r then 0 else v l * M l j)) M) = dt n M
  | 0, _ => dt_congr fun i j _ _ => by
    unfold rwr
    split
    · rename_i e; rw [e]; simp only [sm]; grind
    · rfl
  | k + 1, h => by
    rw [← dt_addmany M v hr k (by omega)]
    by_cases e : k = r
    · refine dt_congr fun i j _ _ => ?_
      unfold rwr
      split
      · simp only [sm, if_pos e]; grind
      · rfl
    · rw [← dt_add (rwr r (fun j => M r j - sm k (fun l => if l = r then 0 else v l * M l j)) M) (v k) (show k < n by omega) hr (fun e' => e e'.symm)]
      refine dt_congr fun i j _ _ => ?_
      unfold rwr
      by_cases c : i = r
      · simp only [if_pos c, sm, if_neg e, if_true]; grind
      · simp only [if_neg c]

/-- row operations, seen from the columns -/
theorem RE.turn (hp : isPB q = true) {M N : Nat → Nat → Fin q} {c : Fin q} (h : RE n n M N c) : dt n (fun i j => N j i) = c * dt n (fun i j => M j i) := by
  induction h with
  | refl e => rw [dt_congr (M := fun i j => M j i) (fun i j hi hj => e j i hj hi)]; grind
  | @swap N c i r hi hr hne _ ih =>
    rw [show dt n (fun a b => N (sx i r b) a) = dt n (mm n (fun i j => N j i) (fun k b => idm (sx i r k) b)) from dt_congr fun a b _ hb => by
      show _ = sm n (fun k => N k a * (if b = sx i r k then 1 else 0))
      rw [sm_one _ (sx_lt hi hr hb) (fun k _ hk => by
        rw [if_neg (fun e => hk (by rw [e, sx_sx]))]; grind)]
      rw [if_pos (sx_sx i r b).symm]; grind]
    rw [dt_mul hp, show dt n (fun k b => (idm (sx i r k) b : Fin q)) = - dt n idm from dt_swap idm hi hr hne, dt_one, ih]; grind
  | @scale N c r u hr _ ih =>
    rw [show dt n (fun a b => if b = r then u * N r a else N b a) = dt n (mm n (fun i j => N j i) (fun l c => if l = r then u * idm r c else idm l c)) from dt_congr fun a b _ hb => by
      show _ = sm n (fun k => N k a * (if k = r then u * (if b = r then 1 else 0) else (if b = k then 1 else 0)))
      rw [sm_one _ hb (fun k _ hk => by
        by_cases e : k = r
        · rw [if_pos e, if_neg (by omega)]; grind
        · rw [if_neg e, if_neg (by omega)]; grind)]
      by_cases e : b = r
      · rw [if_pos e, if_pos e, if_pos e, e]; grind
      · rw [if_neg e, if_neg e, if_pos rfl]; grind]
    rw [dt_mul hp, dt_scale _ u hr, dt_one, ih]; grind
  | @elim N c r v hr _ ih =>
    rw [show dt n (fun a b => if b = r then N r a else N b a - v b * N r a) = dt n (mm n (fun i j => N j i) (rwr r (fun j => idm r j - sm n (fun l => if l = r then 0 else v l * idm l j)) idm)) from dt_congr fun a b _ hb => by
      have hs : sm n (fun l => if l = r then (0 : Fin q) else v l * idm l b) = if b = r then 0 else v b := by
        rw [sm_one _ hb (fun k _ hk => by
          unfold idm
          by_cases e : k = r
          · rw [if_pos e]
          · rw [if_neg e, if_neg (by omega)]; grind)]
        unfold idm
        split
        · rfl
        · rw [if_pos rfl]; grind
      show _ = sm n (fun k => N k a * (if k = r then (idm r b - sm n (fun l => if l = r then (0 : Fin q) else v l * idm l b)) else idm k b))
      rw [hs]
      by_cases e : b = r
      · rw [if_pos e, if_pos e]
        rw [sm_one _ hb (fun k _ hk => by rw [if_neg (by omega)]; unfold idm; rw [if_neg (by omega)]; grind)]
        rw [if_pos e, e]; unfold idm; rw [if_pos rfl]; grind
      · rw [if_neg e, if_neg e]
        rw [sm_congr (g := fun k => (if k = r then -v b * N r a else 0) + (if k = b then N b a else 0)) (fun k _ => by
          unfold idm
          by_cases c1 : k = r
          · rw [if_pos c1, if_pos c1, if_neg (by omega), if_neg (by omega), c1]; grind
          · rw [if_neg c1, if_neg c1]
            by_cases c2 : k = b
            · rw [if_pos c2.symm, if_pos c2, c2]; grind
            · rw [if_neg (by omega), if_neg c2]; grind), sm_add]
        rw [sm_one _ hr (fun k _ hk => if_neg hk), sm_one _ hb (fun k _ hk => if_neg hk), if_pos rfl, if_pos rfl]; grind]
    rw [dt_mul hp, dt_addmany _ v hr n (Nat.le_refl n), dt_one, ih]; grind
  | rows _ e ih => rw [← ih]; exact (dt_congr fun i j hi hj => e j i hj hi).symm

theorem dt_turn (hp : isPB q = true) (A : Nat → Nat → Fin q) : dt n (fun i j => A j i) = dt n A := by
  obtain ⟨N, c, h1, h2, h3⟩ := comes (n := n) hp (lift_res A n n)
  rw [phG_lift] at h1
  have h4 := h1.det
  have h5 := RE.turn hp h1
  rcases h3 with ⟨-, g⟩ | ⟨-, r, hr, g⟩
  · rw [dt_congr g, dt_one] at h4
    rw [dt_congr (N := idm) (fun i j hi hj => by
      rw [g j i hj hi]; unfold idm
      by_cases e : i = j
      · rw [if_pos e, if_pos e.symm]
      · rw [if_neg e, if_neg (fun e' => e e'.symm)]), dt_one] at h5
    grind
  · rw [dt_zero N hr g] at h4
    have h6 : dt n (fun i j => N j i) = 0 := by
      rw [show dt n (fun i j => N j i) = dt n (mm n (fun i j => N j i) (fun k b => if k = r then 0 else idm k b)) from dt_congr fun a b ha hb => by
        show _ = sm n (fun k => N k a * (if k = r then 0 else idm k b))
        rw [sm_one _ hb (fun k _ hk => by
          by_cases e : k = r
          · rw [if_pos e]; grind
          · rw [if_neg e]; unfold idm; rw [if_neg (by omega)]; grind)]
        by_cases e : b = r
        · rw [if_pos e, e, g a ha]; grind
        · rw [if_neg e]; unfold idm; rw [if_pos rfl]; grind]
      rw [dt_mul hp, dt_zero (r := r) (fun k b => if k = r then 0 else idm k b) hr (fun j _ => if_pos rfl)]; grind
    rw [h6] at h5
    grind
end
end Go.Proofs.Ytdlpemmoobbgnaa

namespace Go.Proofs.Ytdlpemmoobbgnaa
open laF

theorem detM_bd {p : Int} (hp : 2 ≤ p) (R : Nat) (x : Nat → Raw) : 0 ≤ detM p R x ∧ detM p R x < p := by
  unfold detM
  split
  · omega
  · exact RS.run_d (s := ⟨resG p R x, [], 1 % p⟩) (by omega) (by show 0 ≤ 1 % p ∧ 1 % p < p; rw [Int.emod_eq_of_lt (by omega) (by omega)]; omega) R

section
variable {n : Nat} {xa xb xab xt xu xv : Nat → Raw}

theorem det_product {p : Int} (hp : primeB p = true) (h : ∀ t, t < n * n → (xab t).val = mulF (fun t => (xa t).val) (fun t => (xb t).val) n n t) : detM p n xab = detM p n xa * detM p n xb % p := by
  obtain ⟨q, rfl, hq, hz⟩ := prime_nat hp
  have h2 := isPB_ge q hq
  have b1 := detM_bd (p := q) (by omega) n xab
  refine ph_inj (p := q) b1.1 b1.2 (Int.emod_nonneg _ (by omega)) (Int.emod_lt_of_pos _ (by omega)) ?_
  rw [ph_mod, ph_mul, detM_dt hq, detM_dt hq, detM_dt hq, ← dt_mul hq]
  refine dt_congr fun i j hi hj => ?_
  rw [phG_resG (by omega), ph_ua (xu := xa) (xa := xb) (xua := xab) (R := n) (C := n) (by omega) h hi hj]; rfl

theorem det_turn {p : Int} (hp : primeB p = true) (h : ∀ t, t < n * n → (xt t).val = (xa (t % n * n + t / n)).val) : detM p n xt = detM p n xa := by
  obtain ⟨q, rfl, hq, hz⟩ := prime_nat hp
  have h2 := isPB_ge q hq
  have b1 := detM_bd (p := q) (by omega) n xt
  have b2 := detM_bd (p := q) (by omega) n xa
  refine ph_inj (p := q) b1.1 b1.2 b2.1 b2.2 ?_
  rw [detM_dt hq, detM_dt hq, ← dt_turn hq]
  refine dt_congr fun i j hi hj => ?_
  obtain ⟨e1, e2⟩ := div_mod_lt (j := j) hi
  rw [phG_resG (by omega), phG_resG (by omega), h _ (prod_lt hj hi), e1, e2]

theorem det_unit {p : Int} (hp : primeB p = true) (h : ∀ t, t < n * n → (xu t).val = if t / n = t % n then 1 else 0) : detM p n xu = 1 := by
  obtain ⟨q, rfl, hq, hz⟩ := prime_nat hp
  have h2 := isPB_ge q hq
  have b1 := detM_bd (p := q) (by omega) n xu
  refine ph_inj (p := q) b1.1 b1.2 (by omega) (by omega) ?_
  rw [detM_dt hq, ph_one, ← dt_one (p := q) n]
  refine dt_congr fun i j hi hj => ?_
  obtain ⟨e1, e2⟩ := div_mod_lt (j := i) hj
  rw [phG_resG (by omega), h _ (prod_lt hi hj), e1, e2]
  unfold idm
  by_cases e : i = j
  · rw [if_pos e, if_pos e.symm]; exact ph_one
  · rw [if_neg e, if_neg (fun e' => e e'.symm)]; exact ph_zero

/-- the determinant is 0 just where the rank is not whole -/
theorem det_rank {p : Int} (hp : primeB p = true) (n : Nat) (xa : Nat → Raw) : (besS p n n xa).P.length < n ↔ detM p n xa = 0 := by
  have hk := ker_rank hp n n xa
  obtain ⟨q, rfl, hq, hz⟩ := prime_nat hp
  have h2 := isPB_ge q hq
  change (besS q n n xa).P.length = _ at hk
  rw [hk]
  constructor
  · intro h; unfold detM; rw [if_pos h]
  · intro h
    refine Classical.byContradiction fun hn => ?_
    unfold detM at h
    rw [if_neg hn] at h
    obtain ⟨N, c, -, hc, -⟩ := comes (n := n) hq (resG_res q (by omega) n n n xa)
    have h' : (redS q n n (resG q n xa) n).d = 0 := h
    rw [h', ph_zero] at hc
    exact one_ne (p := q) h2 (by rw [← hc]; grind)

/-- what Inverse answers -/
def invG (p : Int) (n : Nat) (xa : Nat → Raw) : Nat → Int := fun t => (besS p n n xa).G (t / n) (n + t % n)

theorem inv_bd {p : Int} (hp : 2 ≤ p) (n : Nat) (xa : Nat → Raw) : ∀ t, t < n * n → 0 ≤ invG p n xa t ∧ invG p n xa t < p := fun t ht => by
  obtain ⟨g1, g2⟩ := mul_idx (K := n) ht
  exact besS_res p hp n n xa _ _ g1 (by omega)

/-- matrices over the residues: a left inverse is a right one -/
theorem inv_both {q : Nat} [NeZero q] (hq : isPB q = true) {V A : Nat → Nat → Fin q} (h : ∀ i j, i < n → j < n → mm n V A i j = idm i j) : ∀ i j, i < n → j < n → mm n A V i j = idm i j := by
  have h2 := isPB_ge q hq
  -- V has full rank
  have hd : dt n V * dt n A = 1 := by rw [← dt_mul hq, dt_congr h, dt_one]
  have hV := lift_res V n n
  have hr : ¬ (redS q n n (liftG V) n).P.length < n := fun hlt => by
    have h3 := redS_dt hq hV
    rw [phG_lift, if_pos hlt] at h3
    rw [h3] at hd
    exact one_ne (p := q) h2 (by rw [← hd]; grind)
  have hf := full_inv hq hV hr
  rw [phG_lift] at hf
  -- so it has a left inverse W
  have hW : ∃ W : Nat → Nat → Fin q, ∀ i j, i < n → j < n → mm n W V i j = idm i j := by
    refine ⟨fun i => if hi : i < n then (hf i hi).choose else fun _ => 0, fun i j hi hj => ?_⟩
    show sm n (fun k => (if hi : i < n then (hf i hi).choose else fun _ => 0) k * V k j) = _
    rw [dif_pos hi]
    exact ((hf i hi).choose_spec j hj).symm
  obtain ⟨W, hW⟩ := hW
  -- W = W (V A) = (W V) A = A
  have hWA : ∀ i j, i < n → j < n → A i j = W i j := fun i j hi hj => by
    have e1 : sm n (fun k => sm n (fun t => W i t * V t k) * A k j) = sm n (fun t => W i t * sm n (fun k => V t k * A k j)) := sm_assoc (fun t => W i t) (fun k => A k j) V
    have l1 : sm n (fun k => sm n (fun t => W i t * V t k) * A k j) = A i j := by
      rw [sm_congr (g := fun k => idm i k * A k j) (fun k hk => by rw [← hW i k hi hk]; rfl), sm_one _ hi (fun k _ hk => by unfold idm; rw [if_neg hk]; grind)]
      unfold idm; rw [if_pos rfl]; grind
    have l2 : sm n (fun t => W i t * sm n (fun k => V t k * A k j)) = W i j := by
      rw [sm_congr (g := fun t => W i t * idm t j) (fun t ht => by rw [← h t j ht hj]; rfl), sm_one _ hj (fun t _ ht => by unfold idm; rw [if_neg (fun e => ht e.symm)]; grind)]
      unfold idm; rw [if_pos rfl]; grind
    rw [← l1, ← l2]; exact e1
  intro i j hi hj
  rw [← hW i j hi hj]
  exact sm_congr fun k hk => by rw [hWA i k hi hk]

theorem inv_left {p : Int} (hp : primeB p = true) (hd : detM p n xa ≠ 0) : (∀ t, t < n * n → (mulF (fun t => (xa t).val) (invG p n xa) n n t - if t / n = t % n then 1 else 0) % p = 0) ∧
    (∀ t, t < n * n → (mulF (invG p n xa) (fun t => (xa t).val) n n t - if t / n = t % n then 1 else 0) % p = 0) := by
  have hrk : ¬ (besS p n n xa).P.length < n := fun h => hd ((det_rank hp n xa).1 h)
  obtain ⟨q, rfl, hq, hz⟩ := prime_nat hp
  have h2 := isPB_ge q hq
  obtain ⟨h1, h3⟩ := besS_ok hq n n xa
  have hle := h1.le
  have e : kerR q n n xa = n := by
    have : (besS q n n xa).P.length = kerR q n n xa := rfl
    omega
  rw [e] at h1
  have hid := rref_id h1
  obtain ⟨V, hV⟩ : ∃ V : Nat → Nat → Fin q, V = fun i j => phG q (besS q n n xa).G i (n + j) := ⟨_, rfl⟩
  have hVA : ∀ i j, i < n → j < n → mm n V (phG q (resG q n xa)) i j = idm i j := fun i j hi hj => by
    rw [← hid i j hi hj, bes_comb bes_rows (h3.2 i hi) j hj, hV]; rfl
  have hAV := inv_both hq hVA
  have hA : ∀ i j, phG q (resG q n xa) i j = ph (xa (i * n + j)).val := fun i j => phG_resG (by omega) n xa i j
  have hI : ∀ i j, j < n → (ph (invG q n xa (i * n + j)) : Fin q) = V i j := fun i j hj => by
    obtain ⟨e1, e2⟩ := div_mod_lt (j := i) hj
    unfold invG
    rw [e1, e2, hV]; rfl
  have hu : ∀ t, (ph (if t / n = t % n then 1 else 0) : Fin q) = idm (t / n) (t % n) := fun t => by
    unfold idm
    by_cases c : t / n = t % n
    · rw [if_pos c, if_pos c.symm]; exact ph_one
    · rw [if_neg c, if_neg (fun c' => c c'.symm)]; exact ph_zero
  constructor
  · intro t ht
    obtain ⟨g1, g2⟩ := mul_idx (K := n) ht
    refine ph_zero_iff.1 ?_
    rw [ph_sub, hu, ← hAV _ _ g1 g2]
    show (ph (dotZ _ _ n) : Fin q) - sm n _ = 0
    rw [ph_dotZ, sm_congr (g := fun k => phG q (resG q n xa) (t / n) k * V k (t % n)) (fun k hk => by rw [hI k _ g2, hA])]
    grind
  · intro t ht
    obtain ⟨g1, g2⟩ := mul_idx (K := n) ht
    refine ph_zero_iff.1 ?_
    rw [ph_sub, hu, ← hVA _ _ g1 g2]
    show (ph (dotZ _ _ n) : Fin q) - sm n _ = 0
    rw [ph_dotZ, sm_congr (g := fun k => V (t / n) k * phG q (resG q n xa) k (t % n)) (fun k hk => by rw [hI _ k hk, hA])]
    grind
end
end Go.Proofs.Ytdlpemmoobbgnaa

namespace Go.Proofs.Ytdlpemmoobbgnaa
open Go.RowKit

theorem ZB.sum {S T : Nat} {x y : Int} (hx : ZB S x) (hy : ZB T y) {U : Nat} (h : S + T + 1 ≤ U) : ZB U (x + y) := (hx.add hy).mono h

set_option maxHeartbeats 4000000 in
set_option maxRecDepth 100000 in
theorem Add_any (R C : Nat) (hR : R ≤ 64) (hC : C ≤ 64) (s1 s2 : Value) (z1 z2 : Nat → Int) (S1 S2 : Nat) (hS : S1 + S2 + 1 ≤ 274877906944) (w : World) (h1 : RdN w s1 (R * C) z1 S1) (h2 : RdN w s2 (R * C) z2 S2) :
    Calls Try.prog 51 #[.agg #[.int .i64 R, .int .i64 C, s1], .agg #[.int .i64 R, .int .i64 C, s2]] w fun e w' => ∃ lb bm, e = .returned (.tuple #[.agg #[.int .i64 R, .int .i64 C, .slice (some ⟨lb, 0, none⟩) (R * C) (R * C)], .int .i64 0]) ∧
      ZG 56 w' w.heap.size bm lb (R * C) (fun q => z1 q + z2 q) ∧ Below w.heap.size w w' := by
  obtain ⟨a, cap, rfl, hn⟩ := h1.slice
  obtain ⟨b, cap', rfl, hn'⟩ := h2.slice
  obtain ⟨N, hN⟩ : ∃ N, N = R * C := ⟨_, rfl⟩
  have hN4 : N ≤ 4096 := by rw [hN]; exact Nat.mul_le_mul hR hC
  rw [← hN] at h1 hn h2 hn'
  have hboth := fun W => both_any R C R C a b N cap N cap' hn hn' W (by omega) (by omega) (by rw [hN]; simp) (by omega) (by omega) (by rw [hN]; simp)
  obtain ⟨W0, hW0, ⟨x0, x1, x2⟩, ⟨x3, x4, x5⟩, ⟨y0, y1, y2⟩, ⟨f0, f1, f2⟩, hb0, hs0⟩ := three_boxes w (.int .i64 R) (.int .i64 C) (.slice a N cap) (.int .i64 R) (.int .i64 C) (.slice b N cap') 34
  have HR1 := Lib.hid h1
  have HR2 := Lib.hid h2
  have HC := Lib.hid hboth
  have HN := Lib.hid hN
  have HB0 := Lib.hid hb0
  have HS0 := Lib.hid hs0
  rw [← hN]
  clear h1 h2 hboth hN hb0 hs0
  go_enter Try.func51, Try.ntmps51
  rw [hW0] at x0 x1 x2 x3 x4 x5 y0 y1 y2 f0 f1 f2 HB0 HS0
  clear hW0
  go_wp2_with (first
    | (go_at_call 38; refine (HC.out _).mono ?_; rintro e w2 ⟨rfl, hb2⟩; have HB2 := Lib.hid (HB0.out.trans (hb2.mono HB0.out.size)); have HS2 := Lib.hid hb2.size; replace x0 := cell_stays hb2 x0; replace x1 := cell_stays hb2 x1; replace x2 := cell_stays hb2 x2; replace x3 := cell_stays hb2 x3; replace x4 := cell_stays hb2 x4; replace x5 := cell_stays hb2 x5; replace f0 := froz_stays hb2 y0 f0; replace f1 := froz_stays hb2 y1 f1; replace f2 := froz_stays hb2 y2 f2; replace y0 := cell_stays hb2 y0; replace y1 := cell_stays hb2 y1; replace y2 := cell_stays hb2 y2; clear hb2)
    | (go_at_call 39; refine (blank_any R C hR hC _).mono ?_; rintro e w3 ⟨lb, rfl, hz3, hb3⟩; have HB3 := Lib.hid (HB2.out.trans (hb3.mono HB2.out.size)); have HZ3 := Lib.hid hz3; replace x0 := cell_stays hb3 x0; replace x1 := cell_stays hb3 x1; replace x2 := cell_stays hb3 x2; replace x3 := cell_stays hb3 x3; replace x4 := cell_stays hb3 x4; replace x5 := cell_stays hb3 x5; replace f0 := froz_stays hb3 y0 f0; replace f1 := froz_stays hb3 y1 f1; replace f2 := froz_stays hb3 y2 f2; replace y0 := cell_stays hb3 y0; replace y1 := cell_stays hb3 y1; replace y2 := cell_stays hb3 y2; clear hb3 hz3))
  have hbox := (Below.refl w3.heap.size w3).alloc (Nat.le_refl _) (.cells #[.int .i64 R, .int .i64 C, .slice (some ⟨lb, 0, none⟩) (R * C) (R * C)] 34)
  have hm := three_cells w3 (.int .i64 R) (.int .i64 C) (.slice (some ⟨lb, 0, none⟩) (R * C) (R * C)) 34
  have h0 : GS w (w3.alloc (.cells #[.int .i64 R, .int .i64 C, .slice (some ⟨lb, 0, none⟩) (R * C) (R * C)] 34)) (six w.heap.size (.int .i64 R) (.int .i64 C) (.slice a N cap) (.int .i64 R) (.int .i64 C) (.slice b N cap')) (w.heap.size + 2) R C lb w3.heap.size (upZ (fun q => z1 q + z2 q) 0) := by
    have h2 : w.heap.size + 3 ≤ w2.heap.size := by rw [← HS0.out]; exact HS2.out
    have h3 := HZ3.out.own
    exact ⟨((HZ3.out.mono (by omega)).congr fun q _ => by unfold upZ; rw [if_neg (by omega)]).below hbox, HB3.out.alloc HB3.out.size _, by omega, by omega, by simp, six_all (by omega) (cell_stays hbox x0) (cell_stays hbox x1) (cell_stays hbox x2) (cell_stays hbox x3) (cell_stays hbox x4) (cell_stays hbox x5), ⟨cell_stays hbox y0, cell_stays hbox y1, cell_stays hbox y2⟩,
      ⟨froz_stays hbox y0 f0, froz_stays hbox y1 f1, froz_stays hbox y2 f2⟩, ⟨(hm 0 _ rfl).1, (hm 1 _ rfl).1, (hm 2 _ rfl).1⟩⟩
  have H0 := Lib.hid h0
  generalize w3.alloc (.cells #[.int .i64 R, .int .i64 C, .slice (some ⟨lb, 0, none⟩) (R * C) (R * C)] 34) = w4 at H0 ⊢
  generalize w3.heap.size = nb at H0 ⊢
  clear hbox hm h0 x0 x1 x2 x3 x4 x5 y0 y1 y2 f0 f1 f2 HZ3 HB3 HB2 HS2 HB0 HS0 HC
  go_loopw [8] (fun iv wr => ∃ i : Nat, i ≤ N ∧ iv = .int .i64 i ∧ GS w wr (six w.heap.size (.int .i64 R) (.int .i64 C) (.slice a N cap) (.int .i64 R) (.int .i64 C) (.slice b N cap')) (w.heap.size + 2) R C lb nb (upZ (fun q => z1 q + z2 q) i)) (fun iv _ => N - (intOf iv).toNat)
  case atStart => exact ⟨0, by omega, rfl, H0.out⟩
  case round =>
    clear H0
    obtain ⟨i, i1, rfl, h⟩ := hrel
    obtain ⟨x0, x1, x2, x3, x4, x5⟩ := h.six
    by_cases hi : i < N
    · have hiN : i < R * C := by rw [← HN.out]; exact hi
      obtain ⟨b1, o1, g1, am, nm, cm, rfl, cw0, cw1, cw2, cz⟩ := HR1.out.at (by omega) hi
      obtain ⟨b2, o2, g2, al, nl, cl, rfl, dw0, dw1, dw2, dz⟩ := HR2.out.at (by omega) hi
      have c0 := cell_stays h.bel cw0
      have c1 := cell_stays h.bel cw1
      have d0 := cell_stays h.bel dw0
      have d1 := cell_stays h.bel dw1
      obtain ⟨n0, n1, n2⟩ := h.m
      have s1 := World.block_lt_of_cell? w _ cw0
      have s2 := World.block_lt_of_cell? w _ dw0
      dsimp only at s1 s2
      have l1 := h.lo
      have l2 := h.zg.lt
      have e1 : b1 ≠ lb := by omega
      have e2 : b2 ≠ lb := by omega
      have e3 : nb ≠ lb := by omega
      have e4 : w.heap.size ≠ lb := by omega
      have e5 : w.heap.size + 1 ≠ lb := by omega
      have hcall : ∀ W, Below wr.heap.size wr W → Calls Try.prog 58 #[.agg #[.bool g1, .slice am nm cm], .agg #[.bool g2, .slice al nl cl]] W fun e w' => ∃ av nv cv, e = .returned (.agg #[.bool (decide (z1 i + z2 i < 0)), .slice av nv cv]) ∧
          FrZ w' W.heap.size (.agg #[.bool (decide (z1 i + z2 i < 0)), .slice av nv cv]) (z1 i + z2 i) ∧ Below wr.heap.size wr w' := fun W hW => by
        have hWw := h.bel.trans (hW.mono h.bel.size)
        refine (Add05_any _ _ _ _ W (cw2.below hWw) (dw2.below hWw)).mono ?_
        rintro e w' ⟨v, rfl, ⟨m, n', f, rfl, p1, p2⟩, h3⟩
        obtain ⟨a', c', rfl⟩ := p1.slice
        exact ⟨a', n', c', rfl, ⟨_, n', f, rfl, p1, p2⟩, hW.trans (h3.mono hW.size)⟩
      have HCL := Lib.hid hcall
      have HG := Lib.hid h
      have hlt := h.lt
      have q0 : (0 : Int) ≤ (i : Int) := by omega
      have q1 : (i : Int) < (N : Int) := by omega
      have q2 : (i : Int) < (R : Int) * (C : Int) := by
        have h9 : ((i : Nat) : Int) < ((R * C : Nat) : Int) := by omega
        push_cast at h9; exact h9
      clear hcall h cw0 cw1 cw2 cz dw0 dw1 dw2 dz
      go_wp2_with fail
      go_region_held3 (fun w' => w'.cell? ⟨nb, 2, none⟩ = some (.slice (some ⟨lb, 0, none⟩) (R * C) (R * C)) ∧ w'.cell? ⟨w.heap.size, 2, none⟩ = some (.slice (some ⟨b1, o1, none⟩) N cap) ∧ w'.cell? ⟨w.heap.size + 1, 2, none⟩ = some (.slice (some ⟨b2, o2, none⟩) N cap') ∧
          w'.cell? ⟨b1, o1 + i * 2, none⟩ = some (.bool g1) ∧ w'.cell? ⟨b1, o1 + i * 2 + 1, none⟩ = some (.slice am nm cm) ∧ w'.cell? ⟨b2, o2 + i * 2, none⟩ = some (.bool g2) ∧ w'.cell? ⟨b2, o2 + i * 2 + 1, none⟩ = some (.slice al nl cl))
        (first
          | go_keep
          | (exact ⟨cell_stays hb6 n2, cell_stays hb6 x2, cell_stays hb6 x5, cell_stays hb6 c0, cell_stays hb6 c1, cell_stays hb6 d0, cell_stays hb6 d1⟩)
          | (have hk := gb_trans (gb_set w6 ⟨lb, i * 2, none⟩ (.bool (decide (z1 i + z2 i < 0)))) (gb_set _ ⟨lb, i * 2 + 1, none⟩ (.slice av nv cv)); exact ⟨hk.cell (cell_stays hb6 n2) (fun e => e3 (Option.some.inj e)), hk.cell (cell_stays hb6 x2) (fun e => e4 (Option.some.inj e)), hk.cell (cell_stays hb6 x5) (fun e => e5 (Option.some.inj e)), hk.cell (cell_stays hb6 c0) (fun e => e1 (Option.some.inj e)), hk.cell (cell_stays hb6 c1) (fun e => e1 (Option.some.inj e)), hk.cell (cell_stays hb6 d0) (fun e => e2 (Option.some.inj e)), hk.cell (cell_stays hb6 d1) (fun e => e2 (Option.some.inj e))⟩))
        (first
          | (go_at_call 58; (with_reducible refine (HCL.out wr.drew ((Below.refl _ _).drew)).mono ?_); rintro e w6 ⟨av, nv, cv, rfl, hz6, hb6⟩; have HG6 := Lib.hid (HG.out.below hb6); obtain ⟨t0, t1, t2, v1, v2, -⟩ := HG6.out.zg.cells i hiN; have v3 := HG6.out.zg.froz (i := i * 2) (by omega); have v4 := HG6.out.zg.froz (i := i * 2 + 1) (by omega)))
      all_goals
        have R1 := Lib.hid (HG6.out.put (k := i) hiN hz6 (Nat.le_of_lt hlt) (z' := upZ (fun q => z1 q + z2 q) (i + 1)) (fun q' _ => up_put q'))
        go_wp2_with fail
        go_roundw
        case rel => exact ⟨i + 1, by omega, by go_num, R1.out⟩
        case measure => simp [intOf]; omega
    · obtain rfl : i = N := by omega
      have H := Lib.hid h
      obtain ⟨y0, y1, y2⟩ := h.y
      obtain ⟨n0, n1, n2⟩ := h.m
      obtain ⟨f0, f1, f2⟩ := h.f
      clear h
      go_wp2_with fail
      obtain ⟨r0, r1, r2, r3, r4⟩ := H.out.done
      refine bodyPost_ret (v := .tuple #[.agg #[.int .i64 R, .int .i64 C, .slice (some ⟨lb, 0, none⟩) (R * C) (R * C)], .int .i64 0]) ?_ rfl ⟨lb, nb, by rw [HN.out], ?_, r4⟩
      · simp [results, Try.results51, go_sem, r0, r1, r2]
      · rw [HN.out]; exact r3.congr (y := fun q => z1 q + z2 q) fun q hq => if_pos (by rw [HN.out]; exact hq)

theorem Add_rd (R C : Nat) (hR : R ≤ 64) (hC : C ≤ 64) (s1 s2 : Value) (z1 z2 : Nat → Int) (S1 S2 : Nat) (hS : S1 + S2 + 1 ≤ 274877906944) (w : World) (h1 : RdN w s1 (R * C) z1 S1) (h2 : RdN w s2 (R * C) z2 S2) :
    Calls Try.prog 51 #[.agg #[.int .i64 R, .int .i64 C, s1], .agg #[.int .i64 R, .int .i64 C, s2]] w fun e w' => ∃ lb, e = .returned (.tuple #[.agg #[.int .i64 R, .int .i64 C, .slice (some ⟨lb, 0, none⟩) (R * C) (R * C)], .int .i64 0]) ∧
      RdN w' (.slice (some ⟨lb, 0, none⟩) (R * C) (R * C)) (R * C) (fun q => z1 q + z2 q) (S1 + S2 + 1) ∧ Below w.heap.size w w' := by
  refine (Add_any R C hR hC s1 s2 z1 z2 S1 S2 hS w h1 h2).mono ?_
  rintro e w' ⟨lb, bm, rfl, hz, hb⟩
  exact ⟨lb, rfl, hz.read (Nat.le_trans (Nat.mul_le_mul hR hC) (by decide)) hS (fun q hq => (h1.zb hq).add (h2.zb hq)), hb⟩
end Go.Proofs.Ytdlpemmoobbgnaa

namespace Go.Proofs.Ytdlpemmoobbgnaa
open Go.RowKit

def five (n : Nat) (v0 v1 v2 v3 v4 : Value) : List (Addr × Value) := [(⟨n, 0, none⟩, v0), (⟨n, 1, none⟩, v1), (⟨n + 1, 0, none⟩, v2), (⟨n + 1, 1, none⟩, v3), (⟨n + 1, 2, none⟩, v4)]
theorem GS.five {w wr : World} {n rb R C lb nb : Nat} {z : Nat → Int} {v0 v1 v2 v3 v4 : Value} (h : GS w wr (five n v0 v1 v2 v3 v4) rb R C lb nb z) :
    wr.cell? ⟨n, 0, none⟩ = some v0 ∧ wr.cell? ⟨n, 1, none⟩ = some v1 ∧ wr.cell? ⟨n + 1, 0, none⟩ = some v2 ∧ wr.cell? ⟨n + 1, 1, none⟩ = some v3 ∧ wr.cell? ⟨n + 1, 2, none⟩ = some v4 :=
  ⟨(h.kept (⟨n, 0, none⟩, v0) (by simp [Proofs.Ytdlpemmoobbgnaa.five])).2, (h.kept (⟨n, 1, none⟩, v1) (by simp [Proofs.Ytdlpemmoobbgnaa.five])).2, (h.kept (⟨n + 1, 0, none⟩, v2) (by simp [Proofs.Ytdlpemmoobbgnaa.five])).2, (h.kept (⟨n + 1, 1, none⟩, v3) (by simp [Proofs.Ytdlpemmoobbgnaa.five])).2, (h.kept (⟨n + 1, 2, none⟩, v4) (by simp [Proofs.Ytdlpemmoobbgnaa.five])).2⟩
theorem five_all {n : Nat} {v0 v1 v2 v3 v4 : Value} {wr : World} {lb : Nat} (hl : n + 1 < lb) (h0 : wr.cell? ⟨n, 0, none⟩ = some v0) (h1 : wr.cell? ⟨n, 1, none⟩ = some v1) (h2 : wr.cell? ⟨n + 1, 0, none⟩ = some v2) (h3 : wr.cell? ⟨n + 1, 1, none⟩ = some v3) (h4 : wr.cell? ⟨n + 1, 2, none⟩ = some v4) :
    ∀ p ∈ five n v0 v1 v2 v3 v4, p.1.block < lb ∧ wr.cell? p.1 = some p.2 := by
  intro p hp
  simp only [Proofs.Ytdlpemmoobbgnaa.five, List.mem_cons, List.not_mem_nil, or_false] at hp
  rcases hp with rfl | rfl | rfl | rfl | rfl
  · exact ⟨by show n < lb; omega, h0⟩
  · exact ⟨by show n < lb; omega, h1⟩
  · exact ⟨hl, h2⟩
  · exact ⟨hl, h3⟩
  · exact ⟨hl, h4⟩

/-- the boxes of an integer and a matrix handed in and of the result -/
theorem scale_boxes (w : World) (v0 v1 v2 v3 v4 : Value) (t u : TypeId) : ∃ W, W = ((w.alloc (.cells #[v0, v1] u)).alloc (.cells #[v2, v3, v4] t)).alloc (.cells #[.int .i64 0, .int .i64 0, .slice none 0 0] t) ∧
    (W.cell? ⟨w.heap.size, 0, none⟩ = some v0 ∧ W.cell? ⟨w.heap.size, 1, none⟩ = some v1) ∧
    (W.cell? ⟨w.heap.size + 1, 0, none⟩ = some v2 ∧ W.cell? ⟨w.heap.size + 1, 1, none⟩ = some v3 ∧ W.cell? ⟨w.heap.size + 1, 2, none⟩ = some v4) ∧
    (W.cell? ⟨w.heap.size + 2, 0, none⟩ = some (.int .i64 0) ∧ W.cell? ⟨w.heap.size + 2, 1, none⟩ = some (.int .i64 0) ∧ W.cell? ⟨w.heap.size + 2, 2, none⟩ = some (.slice none 0 0)) ∧
    (W.frozen? ⟨w.heap.size + 2, 0, none⟩ = false ∧ W.frozen? ⟨w.heap.size + 2, 1, none⟩ = false ∧ W.frozen? ⟨w.heap.size + 2, 2, none⟩ = false) ∧ Below w.heap.size w W ∧ W.heap.size = w.heap.size + 3 := by
  refine ⟨_, rfl, ?_⟩
  have k := cells2 w v0 v1 u
  have l := three_cells (w.alloc (.cells #[v0, v1] u)) v2 v3 v4 t
  have m := three_cells ((w.alloc (.cells #[v0, v1] u)).alloc (.cells #[v2, v3, v4] t)) (.int .i64 0) (.int .i64 0) (.slice none 0 0) t
  have h1 : (w.alloc (.cells #[v0, v1] u)).heap.size = w.heap.size + 1 := by simp
  have h2 : ((w.alloc (.cells #[v0, v1] u)).alloc (.cells #[v2, v3, v4] t)).heap.size = w.heap.size + 2 := by simp
  have b2 := (Below.refl (w.alloc (.cells #[v0, v1] u)).heap.size (w.alloc (.cells #[v0, v1] u))).alloc (Nat.le_refl _) (.cells #[v2, v3, v4] t)
  have b3 := (Below.refl ((w.alloc (.cells #[v0, v1] u)).alloc (.cells #[v2, v3, v4] t)).heap.size ((w.alloc (.cells #[v0, v1] u)).alloc (.cells #[v2, v3, v4] t))).alloc (Nat.le_refl _) (.cells #[.int .i64 0, .int .i64 0, .slice none 0 0] t)
  rw [h1] at l
  rw [h2] at m
  refine ⟨⟨cell_stays b3 (cell_stays b2 (k 0 _ rfl).1), cell_stays b3 (cell_stays b2 (k 1 _ rfl).1)⟩, ⟨cell_stays b3 (l 0 _ rfl).1, cell_stays b3 (l 1 _ rfl).1, cell_stays b3 (l 2 _ rfl).1⟩,
    ⟨(m 0 _ rfl).1, (m 1 _ rfl).1, (m 2 _ rfl).1⟩, ⟨(m 0 _ rfl).2, (m 1 _ rfl).2, (m 2 _ rfl).2⟩, (((Below.refl _ _).alloc (Nat.le_refl _) _).alloc (by simp) _).alloc (by simp; omega) _, by simp⟩

set_option maxHeartbeats 4000000 in
set_option maxRecDepth 100000 in
theorem Scale_rd (R C : Nat) (hR : R ≤ 64) (hC : C ≤ 64) (gk : Bool) (ak : Option Addr) (nk ck : Nat) (k : Int) (s2 : Value) (z2 : Nat → Int) (S1 S2 : Nat) (hS : S1 + S2 ≤ 274877906944) (w : World) (hk : RdZ w (.agg #[.bool gk, .slice ak nk ck]) k) (hkb : ZB S1 k) (h2 : RdN w s2 (R * C) z2 S2) :
    Calls Try.prog 50 #[.agg #[.bool gk, .slice ak nk ck], .agg #[.int .i64 R, .int .i64 C, s2]] w fun e w' => ∃ lb, e = .returned (.tuple #[.agg #[.int .i64 R, .int .i64 C, .slice (some ⟨lb, 0, none⟩) (R * C) (R * C)], .int .i64 0]) ∧
      RdN w' (.slice (some ⟨lb, 0, none⟩) (R * C) (R * C)) (R * C) (fun q => k * z2 q) (S1 + S2) ∧ Below w.heap.size w w' := by
  obtain ⟨b, cap', rfl, hn'⟩ := h2.slice
  obtain ⟨N, hN⟩ : ∃ N, N = R * C := ⟨_, rfl⟩
  have hN4 : N ≤ 4096 := by rw [hN]; exact Nat.mul_le_mul hR hC
  rw [← hN] at h2 hn'
  have hcheck := fun W => Check09_any R C b N cap' hn' W (by omega) (by omega) (by rw [hN]; simp)
  obtain ⟨W0, hW0, ⟨x0, x1⟩, ⟨x3, x4, x5⟩, ⟨y0, y1, y2⟩, ⟨f0, f1, f2⟩, hb0, hs0⟩ := scale_boxes w (.bool gk) (.slice ak nk ck) (.int .i64 R) (.int .i64 C) (.slice b N cap') 34 56
  have HR1 := Lib.hid hk
  have HZ1 := Lib.hid hkb
  have HR2 := Lib.hid h2
  have HC := Lib.hid hcheck
  have HN := Lib.hid hN
  have HB0 := Lib.hid hb0
  have HS0 := Lib.hid hs0
  rw [← hN]
  clear hk hkb h2 hcheck hN hb0 hs0
  go_enter Try.func50, Try.ntmps50
  rw [hW0] at x0 x1 x3 x4 x5 y0 y1 y2 f0 f1 f2 HB0 HS0
  clear hW0
  go_wp2_with (first
    | (go_at_call 41; refine (HC.out _).mono ?_; rintro e w2 ⟨rfl, hb2⟩; have HB2 := Lib.hid (HB0.out.trans (hb2.mono HB0.out.size)); have HS2 := Lib.hid hb2.size; replace x0 := cell_stays hb2 x0; replace x1 := cell_stays hb2 x1; replace x3 := cell_stays hb2 x3; replace x4 := cell_stays hb2 x4; replace x5 := cell_stays hb2 x5; replace f0 := froz_stays hb2 y0 f0; replace f1 := froz_stays hb2 y1 f1; replace f2 := froz_stays hb2 y2 f2; replace y0 := cell_stays hb2 y0; replace y1 := cell_stays hb2 y1; replace y2 := cell_stays hb2 y2; clear hb2)
    | (go_at_call 39; refine (blank_any R C hR hC _).mono ?_; rintro e w3 ⟨lb, rfl, hz3, hb3⟩; have HB3 := Lib.hid (HB2.out.trans (hb3.mono HB2.out.size)); have HZ3 := Lib.hid hz3; replace x0 := cell_stays hb3 x0; replace x1 := cell_stays hb3 x1; replace x3 := cell_stays hb3 x3; replace x4 := cell_stays hb3 x4; replace x5 := cell_stays hb3 x5; replace f0 := froz_stays hb3 y0 f0; replace f1 := froz_stays hb3 y1 f1; replace f2 := froz_stays hb3 y2 f2; replace y0 := cell_stays hb3 y0; replace y1 := cell_stays hb3 y1; replace y2 := cell_stays hb3 y2; clear hb3 hz3))
  have hbox := (Below.refl w3.heap.size w3).alloc (Nat.le_refl _) (.cells #[.int .i64 R, .int .i64 C, .slice (some ⟨lb, 0, none⟩) (R * C) (R * C)] 34)
  have hm := three_cells w3 (.int .i64 R) (.int .i64 C) (.slice (some ⟨lb, 0, none⟩) (R * C) (R * C)) 34
  have h0 : GS w (w3.alloc (.cells #[.int .i64 R, .int .i64 C, .slice (some ⟨lb, 0, none⟩) (R * C) (R * C)] 34)) (five w.heap.size (.bool gk) (.slice ak nk ck) (.int .i64 R) (.int .i64 C) (.slice b N cap')) (w.heap.size + 2) R C lb w3.heap.size (upZ (fun q => k * z2 q) 0) := by
    have h2 : w.heap.size + 3 ≤ w2.heap.size := by rw [← HS0.out]; exact HS2.out
    have h3 := HZ3.out.own
    exact ⟨((HZ3.out.mono (by omega)).congr fun q _ => by unfold upZ; rw [if_neg (by omega)]).below hbox, HB3.out.alloc HB3.out.size _, by omega, by omega, by simp, five_all (by omega) (cell_stays hbox x0) (cell_stays hbox x1) (cell_stays hbox x3) (cell_stays hbox x4) (cell_stays hbox x5), ⟨cell_stays hbox y0, cell_stays hbox y1, cell_stays hbox y2⟩,
      ⟨froz_stays hbox y0 f0, froz_stays hbox y1 f1, froz_stays hbox y2 f2⟩, ⟨(hm 0 _ rfl).1, (hm 1 _ rfl).1, (hm 2 _ rfl).1⟩⟩
  have H0 := Lib.hid h0
  generalize w3.alloc (.cells #[.int .i64 R, .int .i64 C, .slice (some ⟨lb, 0, none⟩) (R * C) (R * C)] 34) = w4 at H0 ⊢
  generalize w3.heap.size = nb at H0 ⊢
  clear hbox hm h0 x0 x1 x3 x4 x5 y0 y1 y2 f0 f1 f2 HZ3 HB3 HB2 HS2 HB0 HS0 HC
  go_loopw [8] (fun iv wr => ∃ i : Nat, i ≤ N ∧ iv = .int .i64 i ∧ GS w wr (five w.heap.size (.bool gk) (.slice ak nk ck) (.int .i64 R) (.int .i64 C) (.slice b N cap')) (w.heap.size + 2) R C lb nb (upZ (fun q => k * z2 q) i)) (fun iv _ => N - (intOf iv).toNat)
  case atStart => exact ⟨0, by omega, rfl, H0.out⟩
  case round =>
    clear H0
    obtain ⟨i, i1, rfl, h⟩ := hrel
    obtain ⟨x0, x1, x3, x4, x5⟩ := h.five
    by_cases hi : i < N
    · have hiN : i < R * C := by rw [← HN.out]; exact hi
      obtain ⟨b2, o2, g2, al, nl, cl, rfl, dw0, dw1, dw2, dz⟩ := HR2.out.at (by omega) hi
      have d0 := cell_stays h.bel dw0
      have d1 := cell_stays h.bel dw1
      obtain ⟨n0, n1, n2⟩ := h.m
      have s2 := World.block_lt_of_cell? w _ dw0
      dsimp only at s2
      have l1 := h.lo
      have l2 := h.zg.lt
      have e2 : b2 ≠ lb := by omega
      have e3 : nb ≠ lb := by omega
      have e4 : w.heap.size ≠ lb := by omega
      have e5 : w.heap.size + 1 ≠ lb := by omega
      have hcall : ∀ W, Below wr.heap.size wr W → Calls Try.prog 69 #[.agg #[.bool gk, .slice ak nk ck], .agg #[.bool g2, .slice al nl cl]] W fun e w' => ∃ av nv cv, e = .returned (.agg #[.bool (decide (k * z2 i < 0)), .slice av nv cv]) ∧
          FrZ w' W.heap.size (.agg #[.bool (decide (k * z2 i < 0)), .slice av nv cv]) (k * z2 i) ∧ Below wr.heap.size wr w' := fun W hW => by
        have hWw := h.bel.trans (hW.mono h.bel.size)
        refine (Mul05_any _ _ _ _ W (HR1.out.below hWw) (dw2.below hWw)).mono ?_
        rintro e w' ⟨v, rfl, ⟨m, n', f, rfl, p1, p2⟩, h3⟩
        obtain ⟨a', c', rfl⟩ := p1.slice
        exact ⟨a', n', c', rfl, ⟨_, n', f, rfl, p1, p2⟩, hW.trans (h3.mono hW.size)⟩
      have HCL := Lib.hid hcall
      have HG := Lib.hid h
      have hlt := h.lt
      have q0 : (0 : Int) ≤ (i : Int) := by omega
      have q1 : (i : Int) < (N : Int) := by omega
      have q2 : (i : Int) < (R : Int) * (C : Int) := by
        have h9 : ((i : Nat) : Int) < ((R * C : Nat) : Int) := by omega
        push_cast at h9; exact h9
      clear hcall h dw0 dw1 dw2 dz
      go_wp2_with fail
      go_region_held3 (fun w' => w'.cell? ⟨nb, 2, none⟩ = some (.slice (some ⟨lb, 0, none⟩) (R * C) (R * C)) ∧ w'.cell? ⟨w.heap.size, 0, none⟩ = some (.bool gk) ∧ w'.cell? ⟨w.heap.size, 1, none⟩ = some (.slice ak nk ck) ∧ w'.cell? ⟨w.heap.size + 1, 2, none⟩ = some (.slice (some ⟨b2, o2, none⟩) N cap') ∧
          w'.cell? ⟨b2, o2 + i * 2, none⟩ = some (.bool g2) ∧ w'.cell? ⟨b2, o2 + i * 2 + 1, none⟩ = some (.slice al nl cl))
        (first
          | go_keep
          | (exact ⟨cell_stays hb6 n2, cell_stays hb6 x0, cell_stays hb6 x1, cell_stays hb6 x5, cell_stays hb6 d0, cell_stays hb6 d1⟩)
          | (have hk := gb_trans (gb_set w6 ⟨lb, i * 2, none⟩ (.bool (decide (k * z2 i < 0)))) (gb_set _ ⟨lb, i * 2 + 1, none⟩ (.slice av nv cv)); exact ⟨hk.cell (cell_stays hb6 n2) (fun e => e3 (Option.some.inj e)), hk.cell (cell_stays hb6 x0) (fun e => e4 (Option.some.inj e)), hk.cell (cell_stays hb6 x1) (fun e => e4 (Option.some.inj e)), hk.cell (cell_stays hb6 x5) (fun e => e5 (Option.some.inj e)), hk.cell (cell_stays hb6 d0) (fun e => e2 (Option.some.inj e)), hk.cell (cell_stays hb6 d1) (fun e => e2 (Option.some.inj e))⟩))
        (first
          | (go_at_call 69; (with_reducible refine (HCL.out wr.drew ((Below.refl _ _).drew)).mono ?_); rintro e w6 ⟨av, nv, cv, rfl, hz6, hb6⟩; have HG6 := Lib.hid (HG.out.below hb6); obtain ⟨t0, t1, t2, v1, v2, -⟩ := HG6.out.zg.cells i hiN; have v3 := HG6.out.zg.froz (i := i * 2) (by omega); have v4 := HG6.out.zg.froz (i := i * 2 + 1) (by omega)))
      all_goals
        have R1 := Lib.hid (HG6.out.put (k := i) hiN hz6 (Nat.le_of_lt hlt) (z' := upZ (fun q => k * z2 q) (i + 1)) (fun q' _ => up_put q'))
        go_wp2_with fail
        go_roundw
        case rel => exact ⟨i + 1, by omega, by go_num, R1.out⟩
        case measure => simp [intOf]; omega
    · obtain rfl : i = N := by omega
      have H := Lib.hid h
      obtain ⟨y0, y1, y2⟩ := h.y
      obtain ⟨n0, n1, n2⟩ := h.m
      obtain ⟨f0, f1, f2⟩ := h.f
      clear h
      go_wp2_with fail
      obtain ⟨r0, r1, r2, r3, r4⟩ := H.out.done
      refine bodyPost_ret (v := .tuple #[.agg #[.int .i64 R, .int .i64 C, .slice (some ⟨lb, 0, none⟩) (R * C) (R * C)], .int .i64 0]) ?_ rfl ⟨lb, by rw [HN.out], ?_, r4⟩
      · simp [results, Try.results50, go_sem, r0, r1, r2]
      · have hz := (r3.congr (y := fun q => k * z2 q) fun q hq => if_pos (by rw [HN.out]; exact hq)).read (by have := HN.out; omega) hS (fun q hq => HZ1.out.mul (HR2.out.zb (by rw [HN.out]; exact hq)))
        rw [HN.out]; exact hz
end Go.Proofs.Ytdlpemmoobbgnaa

namespace Go.Proofs.Ytdlpemmoobbgnaa
open Go.RowKit

set_option maxHeartbeats 400000 in
theorem outside_no (n : Nat) (hn : n ≤ 64) (w : World) : Calls Try.prog 74 #[.int .i64 n] w fun e w' => e = .returned (.bool false) ∧ w = w' := by
  go_enter Try.func74, Try.ntmps74
  go_wp2_with fail
  go_ret
  exact ⟨ret_bool (by simp; omega), rfl⟩

set_option maxHeartbeats 1000000 in
set_option maxRecDepth 100000 in
theorem Zero_rd (R C : Nat) (hR : R ≤ 64) (hC : C ≤ 64) (w : World) :
    Calls Try.prog 46 #[.int .i64 R, .int .i64 C] w fun e w' => ∃ lb, e = .returned (.tuple #[.agg #[.int .i64 R, .int .i64 C, .slice (some ⟨lb, 0, none⟩) (R * C) (R * C)], .int .i64 0]) ∧
      ZG 56 w' (w.heap.size + 1) w'.heap.size lb (R * C) (fun _ => 0) ∧ Below w.heap.size w w' := by
  have k := three_cells w (.int .i64 0) (.int .i64 0) (.slice none 0 0) 34
  have hb0 : Below w.heap.size w (w.alloc (.cells #[.int .i64 0, .int .i64 0, .slice none 0 0] 34)) := (Below.refl _ _).alloc (Nat.le_refl _) _
  have hs0 : (w.alloc (.cells #[.int .i64 0, .int .i64 0, .slice none 0 0] 34)).heap.size = w.heap.size + 1 := by simp
  have y0 := (k 0 _ rfl).1
  have y1 := (k 1 _ rfl).1
  have y2 := (k 2 _ rfl).1
  have f0 := (k 0 _ rfl).2
  have f1 := (k 1 _ rfl).2
  have f2 := (k 2 _ rfl).2
  have HB0 := Lib.hid hb0
  have HS0 := Lib.hid hs0
  clear k hb0 hs0
  go_enter Try.func46, Try.ntmps46
  go_wp2_with (first
    | (go_at_call_of 74 (Value.int .i64 R); refine (outside_no R hR _).mono ?_; rintro e w' ⟨rfl, rfl⟩)
    | (go_at_call 74; refine (outside_no C hC _).mono ?_; rintro e w' ⟨rfl, rfl⟩)
    | (go_at_call 39; refine (blank_any R C hR hC _).mono ?_; rintro e w3 ⟨lb, rfl, hz3, hb3⟩; have HB3 := Lib.hid (HB0.out.trans (hb3.mono HB0.out.size)); have HZ3 := Lib.hid hz3; replace f0 := froz_stays hb3 y0 f0; replace f1 := froz_stays hb3 y1 f1; replace f2 := froz_stays hb3 y2 f2; replace y0 := cell_stays hb3 y0; replace y1 := cell_stays hb3 y1; replace y2 := cell_stays hb3 y2; have HS3 := Lib.hid hb3.size; clear hb3 hz3))
  have hz := HZ3.out
  rw [HS0.out] at hz
  have hs3 := HS3.out
  rw [HS0.out] at hs3
  have l1 := hz.own
  have ne : ∀ {i j : Nat}, i ≠ j → (⟨w.heap.size, i, none⟩ : Addr) ≠ ⟨w.heap.size, j, none⟩ := fun hij e => by injection e with _ e _; exact hij e
  have r3 := ((hz.set (a := ⟨w.heap.size, 0, none⟩) (by show w.heap.size < _; omega) (by show w.heap.size ≠ lb; omega) (.int .i64 R)).set (a := ⟨w.heap.size, 1, none⟩) (by show w.heap.size < _; omega) (by show w.heap.size ≠ lb; omega) (.int .i64 C)).set (a := ⟨w.heap.size, 2, none⟩) (by show w.heap.size < _; omega) (by show w.heap.size ≠ lb; omega) (.slice (some ⟨lb, 0, none⟩) (R * C) (R * C))
  have r0 : (((w3.setCell ⟨w.heap.size, 0, none⟩ (.int .i64 R)).setCell ⟨w.heap.size, 1, none⟩ (.int .i64 C)).setCell ⟨w.heap.size, 2, none⟩ (.slice (some ⟨lb, 0, none⟩) (R * C) (R * C))).cell? ⟨w.heap.size, 0, none⟩ = some (.int .i64 R) := by
    rw [World.cell?_setCell_other _ _ _ _ (by intro e; injection e with _ e _; omega), World.cell?_setCell_other _ _ _ _ (by intro e; injection e with _ e _; omega)]; exact World.cell?_setCell_same _ _ _ y0
  have r1 : (((w3.setCell ⟨w.heap.size, 0, none⟩ (.int .i64 R)).setCell ⟨w.heap.size, 1, none⟩ (.int .i64 C)).setCell ⟨w.heap.size, 2, none⟩ (.slice (some ⟨lb, 0, none⟩) (R * C) (R * C))).cell? ⟨w.heap.size, 1, none⟩ = some (.int .i64 C) := by
    rw [World.cell?_setCell_other _ _ _ _ (by intro e; injection e with _ e _; omega)]
    refine World.cell?_setCell_same _ _ _ (u := .int .i64 0) ?_
    rw [World.cell?_setCell_other _ _ _ _ (by intro e; injection e with _ e _; omega)]; exact y1
  have r2 : (((w3.setCell ⟨w.heap.size, 0, none⟩ (.int .i64 R)).setCell ⟨w.heap.size, 1, none⟩ (.int .i64 C)).setCell ⟨w.heap.size, 2, none⟩ (.slice (some ⟨lb, 0, none⟩) (R * C) (R * C))).cell? ⟨w.heap.size, 2, none⟩ = some (.slice (some ⟨lb, 0, none⟩) (R * C) (R * C)) := by
    refine World.cell?_setCell_same _ _ _ (u := .slice none 0 0) ?_
    rw [World.cell?_setCell_other _ _ _ _ (by intro e; injection e with _ e _; omega), World.cell?_setCell_other _ _ _ _ (by intro e; injection e with _ e _; omega)]; exact y2
  refine bodyPost_ret (v := .tuple #[.agg #[.int .i64 R, .int .i64 C, .slice (some ⟨lb, 0, none⟩) (R * C) (R * C)], .int .i64 0]) ?_ rfl ⟨lb, rfl, ?_, ?_⟩
  · simp [results, Try.results46, go_sem, r0, r1, r2]
  · simpa [World.setCell] using r3
  · repeat (with_reducible refine Below.setCell ?_ (by show w.heap.size ≤ w.heap.size; omega) _)
    exact HB3.out

/-- 1 at the places of the diagonal before row i -/
def unitZ (n i : Nat) : Nat → Int := fun q => if q / n = q % n ∧ q / n < i then 1 else 0
theorem unit_put {n i : Nat} (hi : i < n) (q : Nat) : (if q = i * n + i then 1 else unitZ n i q) = unitZ n (i + 1) q := by
  obtain ⟨h1, h2⟩ := div_mod_lt (j := i) hi
  unfold unitZ
  by_cases e : q = i * n + i
  · rw [if_pos e, e, h1, h2, if_pos ⟨rfl, by omega⟩]
  · rw [if_neg e]
    by_cases h : q / n = q % n ∧ q / n < i
    · rw [if_pos h, if_pos ⟨h.1, by omega⟩]
    · rw [if_neg h]
      refine (if_neg ?_).symm
      rintro ⟨g1, g2⟩
      by_cases g3 : q / n < i
      · exact h ⟨g1, g3⟩
      · refine e ?_
        have h5 : q / n = i := by omega
        have h6 := Nat.div_add_mod q n
        rw [← g1, h5, Nat.mul_comm] at h6
        exact h6.symm
theorem unit_end {n : Nat} (q : Nat) (hq : q < n * n) : unitZ n n q = if q / n = q % n then 1 else 0 := by
  obtain ⟨h1, -⟩ := mul_idx (K := n) hq
  unfold unitZ
  by_cases h : q / n = q % n
  · rw [if_pos ⟨h, h1⟩, if_pos h]
  · rw [if_neg (fun g => h g.1), if_neg h]

theorem one_fr (w : World) : FrZ (w.alloc (.cells #[.int .u64 1] 22)) w.heap.size (.agg #[.bool (decide ((1 : Int) < 0)), .slice (some ⟨w.heap.size, 0, none⟩) 1 1]) 1 := by
  have hn := heap_alloc_new w (.cells #[.int .u64 1] 22)
  refine ⟨_, 1, fun _ => 1, rfl, Or.inr ⟨w.heap.size, 1, rfl, Nat.le_refl _, by decide, Nat.le_refl _, ⟨_, hn, rfl⟩, fun i hi => ?_⟩, ?_⟩
  · obtain rfl : i = 0 := by omega
    refine ⟨by rw [cell_of_row _ _ _ _ _ _ hn]; rfl, ?_⟩
    unfold World.frozen?; simp only; rw [hn]; simp
  · constructor
    all_goals first | rfl | (intro h; decide) | (intro i hi; decide) | simp [natFrom] | omega

set_option maxHeartbeats 2000000 in
set_option maxRecDepth 100000 in
theorem Unit_rd (n : Nat) (hn : n ≤ 64) (w : World) :
    Calls Try.prog 19 #[.int .i64 n] w fun e w' => ∃ lb, e = .returned (.tuple #[.agg #[.int .i64 n, .int .i64 n, .slice (some ⟨lb, 0, none⟩) (n * n) (n * n)], .int .i64 0]) ∧
      RdN w' (.slice (some ⟨lb, 0, none⟩) (n * n) (n * n)) (n * n) (fun q => if q / n = q % n then 1 else 0) 1 ∧ Below w.heap.size w w' := by
  have k := three_cells w (.int .i64 0) (.int .i64 0) (.slice none 0 0) 34
  have hb0 : Below w.heap.size w (w.alloc (.cells #[.int .i64 0, .int .i64 0, .slice none 0 0] 34)) := (Below.refl _ _).alloc (Nat.le_refl _) _
  have hs0 : (w.alloc (.cells #[.int .i64 0, .int .i64 0, .slice none 0 0] 34)).heap.size = w.heap.size + 1 := by simp
  have y0 := (k 0 _ rfl).1
  have y1 := (k 1 _ rfl).1
  have y2 := (k 2 _ rfl).1
  have f0 := (k 0 _ rfl).2
  have f1 := (k 1 _ rfl).2
  have f2 := (k 2 _ rfl).2
  have HB0 := Lib.hid hb0
  have HS0 := Lib.hid hs0
  clear k hb0 hs0
  go_enter Try.func19, Try.ntmps19
  go_wp2_with (go_at_call 46; refine (Zero_rd n n hn hn _).mono ?_; rintro e w3 ⟨lb, rfl, hz3, hb3⟩; have HB3 := Lib.hid (HB0.out.trans (hb3.mono HB0.out.size)); have HZ3 := Lib.hid hz3; replace f0 := froz_stays hb3 y0 f0; replace f1 := froz_stays hb3 y1 f1; replace f2 := froz_stays hb3 y2 f2; replace y0 := cell_stays hb3 y0; replace y1 := cell_stays hb3 y1; replace y2 := cell_stays hb3 y2; have HS3 := Lib.hid hb3.size; clear hb3 hz3)
  have hbox := (Below.refl w3.heap.size w3).alloc (Nat.le_refl _) (.cells #[.int .i64 n, .int .i64 n, .slice (some ⟨lb, 0, none⟩) (n * n) (n * n)] 34)
  have hm := three_cells w3 (.int .i64 n) (.int .i64 n) (.slice (some ⟨lb, 0, none⟩) (n * n) (n * n)) 34
  have h0 : GS w (w3.alloc (.cells #[.int .i64 n, .int .i64 n, .slice (some ⟨lb, 0, none⟩) (n * n) (n * n)] 34)) [] w.heap.size n n lb w3.heap.size (unitZ n 0) := by
    have h3 := HZ3.out.own
    rw [HS0.out] at h3
    exact ⟨((HZ3.out.mono (by rw [HS0.out]; omega)).congr fun q _ => by unfold unitZ; rw [if_neg (by omega)]).below hbox, HB3.out.alloc HB3.out.size _, by omega, Nat.le_refl _, by simp, fun p hp => absurd hp (by simp), ⟨cell_stays hbox y0, cell_stays hbox y1, cell_stays hbox y2⟩,
      ⟨froz_stays hbox y0 f0, froz_stays hbox y1 f1, froz_stays hbox y2 f2⟩, ⟨(hm 0 _ rfl).1, (hm 1 _ rfl).1, (hm 2 _ rfl).1⟩⟩
  have H0 := Lib.hid h0
  generalize w3.alloc (.cells #[.int .i64 n, .int .i64 n, .slice (some ⟨lb, 0, none⟩) (n * n) (n * n)] 34) = w4 at H0 ⊢
  generalize w3.heap.size = nb at H0 ⊢
  clear hbox hm h0 y0 y1 y2 f0 f1 f2 HZ3 HB3 HB0 HS0 HS3
  go_loopw [6] (fun iv wr => ∃ i : Nat, i ≤ n ∧ iv = .int .i64 i ∧ GS w wr [] w.heap.size n n lb nb (unitZ n i)) (fun iv _ => n - (intOf iv).toNat)
  case atStart => exact ⟨0, by omega, rfl, H0.out⟩
  case round =>
    clear H0
    obtain ⟨i, i1, rfl, h⟩ := hrel
    obtain ⟨n0, n1, n2⟩ := h.m
    by_cases hi : i < n
    · obtain ⟨q, hq⟩ : ∃ q, q = i * n + i := ⟨_, rfl⟩
      have hqN : q < n * n := by rw [hq]; exact prod_lt hi hi
      have hnn : n * n ≤ 4096 := Nat.mul_le_mul hn hn
      obtain ⟨e3, e4⟩ := prod64 (r := i) (c := n) (by omega) (by omega)
      have e2 : (i : Int) * n + i = q := by rw [hq]; simp
      have g2 : IntKind.i64.wrap ((i : Int) * n) = (i : Int) * n := IntWalk.i64_in _ (by omega)
      have g3 : IntKind.i64.wrap ((q : Nat) : Int) = q := IntWalk.i64_in _ (by omega)
      have g4 : IntKind.i64.wrap ((i : Int) * n + i) = q := by rw [e2]; exact g3
      have g0 : (0 : Int) ≤ (q : Int) := by omega
      have g1 : (q : Int) < ((n * n : Nat) : Int) := by omega
      have g1' : (q : Int) < (n : Int) * (n : Int) := by have h9 := g1; push_cast at h9; exact h9
      have hba : Below wr.heap.size wr (wr.alloc (.cells #[.int .u64 1] 22)) := (Below.refl _ _).alloc (Nat.le_refl _) _
      have h6 := h.below hba
      obtain ⟨t0, t1, t2, v1, v2, -⟩ := h6.zg.cells q hqN
      have v3 := h6.zg.froz (i := q * 2) (by omega)
      have v4 := h6.zg.froz (i := q * 2 + 1) (by omega)
      have hlt := h.lt
      have R1 := Lib.hid (h6.put (k := q) hqN (one_fr wr) (Nat.le_of_lt hlt) (z' := unitZ n (i + 1)) (fun q' _ => by rw [hq]; exact unit_put hi q'))
      have m0 := h6.m.1
      have m1 := h6.m.2.1
      have m2 := h6.m.2.2
      clear h h6 hba hq e2
      go_wp2_with fail
      go_roundw
      case rel => exact ⟨i + 1, by omega, by go_num, R1.out⟩
      case measure => simp [intOf]; omega
    · obtain rfl : i = n := by omega
      have H := Lib.hid h
      obtain ⟨y0, y1, y2⟩ := h.y
      obtain ⟨f0, f1, f2⟩ := h.f
      clear h
      go_wp2_with fail
      obtain ⟨r0, r1, r2, r3, r4⟩ := H.out.done
      refine bodyPost_ret (v := .tuple #[.agg #[.int .i64 i, .int .i64 i, .slice (some ⟨lb, 0, none⟩) (i * i) (i * i)], .int .i64 0]) ?_ rfl ⟨lb, rfl, ?_, r4⟩
      · simp [results, Try.results19, go_sem, r0, r1, r2]
      · exact (r3.congr (y := fun q => if q / i = q % i then 1 else 0) fun q hq => unit_end q hq).read (Nat.le_trans (Nat.mul_le_mul hn hn) (by decide)) (by omega) (fun q _ => by
          unfold ZB; rw [Int.pow_succ, Int.pow_zero]; split <;> decide)
end Go.Proofs.Ytdlpemmoobbgnaa

namespace Go.Proofs.Ytdlpemmoobbgnaa
open Go.RowKit

theorem minus_one (w : World) : Below w.heap.size w (w.alloc (.cells #[.int .u64 1] 22)) ∧ RdZ (w.alloc (.cells #[.int .u64 1] 22)) (.agg #[.bool true, .slice (some ⟨w.heap.size, 0, none⟩) 1 1]) (-1) :=
  ⟨(Below.refl _ _).alloc (Nat.le_refl _) _, ⟨true, 1, fun _ => 1⟩, ⟨_, rfl, one_word w 1 (by omega) (by omega) _⟩, by simp [Raw.val, Raw.mag, natFrom], (by decide : (1 : Nat) ≤ 274877906944)⟩

theorem stored_own3 {w : World} {b : Nat} {u0 u1 u2 v0 v1 v2 : Value} (y0 : w.cell? ⟨b, 0, none⟩ = some u0) (y1 : w.cell? ⟨b, 1, none⟩ = some u1) (y2 : w.cell? ⟨b, 2, none⟩ = some u2) :
    (((w.setCell ⟨b, 0, none⟩ v0).setCell ⟨b, 1, none⟩ v1).setCell ⟨b, 2, none⟩ v2).cell? ⟨b, 0, none⟩ = some v0 ∧ (((w.setCell ⟨b, 0, none⟩ v0).setCell ⟨b, 1, none⟩ v1).setCell ⟨b, 2, none⟩ v2).cell? ⟨b, 1, none⟩ = some v1 ∧
    (((w.setCell ⟨b, 0, none⟩ v0).setCell ⟨b, 1, none⟩ v1).setCell ⟨b, 2, none⟩ v2).cell? ⟨b, 2, none⟩ = some v2 := by
  refine ⟨?_, ?_, ?_⟩
  · rw [World.cell?_setCell_other _ _ _ _ (by intro e; injection e with _ e _; omega), World.cell?_setCell_other _ _ _ _ (by intro e; injection e with _ e _; omega)]; exact World.cell?_setCell_same _ _ _ y0
  · rw [World.cell?_setCell_other _ _ _ _ (by intro e; injection e with _ e _; omega)]
    refine World.cell?_setCell_same _ _ _ (u := u1) ?_
    rw [World.cell?_setCell_other _ _ _ _ (by intro e; injection e with _ e _; omega)]; exact y1
  · refine World.cell?_setCell_same _ _ _ (u := u2) ?_
    rw [World.cell?_setCell_other _ _ _ _ (by intro e; injection e with _ e _; omega), World.cell?_setCell_other _ _ _ _ (by intro e; injection e with _ e _; omega)]; exact y2

set_option maxHeartbeats 2000000 in
set_option maxRecDepth 100000 in
theorem Sub_mat (R C : Nat) (hR : R ≤ 64) (hC : C ≤ 64) (s1 s2 : Value) (z1 z2 : Nat → Int) (S1 S2 : Nat) (hS : S1 + (1 + S2) + 1 ≤ 274877906944) (w : World) (h1 : RdN w s1 (R * C) z1 S1) (h2 : RdN w s2 (R * C) z2 S2) :
    Calls Try.prog 23 #[.agg #[.int .i64 R, .int .i64 C, s1], .agg #[.int .i64 R, .int .i64 C, s2]] w fun e w' => ∃ lb, e = .returned (.tuple #[.agg #[.int .i64 R, .int .i64 C, .slice (some ⟨lb, 0, none⟩) (R * C) (R * C)], .int .i64 0]) ∧
      RdN w' (.slice (some ⟨lb, 0, none⟩) (R * C) (R * C)) (R * C) (fun q => z1 q - z2 q) (S1 + (1 + S2) + 1) ∧ Below w.heap.size w w' := by
  obtain ⟨a, cap, rfl, hn⟩ := h1.slice
  obtain ⟨b, cap', rfl, hn'⟩ := h2.slice
  obtain ⟨N, hN⟩ : ∃ N, N = R * C := ⟨_, rfl⟩
  obtain ⟨W0, hW0, ⟨x0, x1, x2⟩, ⟨x3, x4, x5⟩, ⟨y0, y1, y2⟩, ⟨f0, f1, f2⟩, hb0, hs0⟩ := three_boxes w (.int .i64 R) (.int .i64 C) (.slice a (R * C) cap) (.int .i64 R) (.int .i64 C) (.slice b (R * C) cap') 34
  obtain ⟨hba, hkz⟩ := minus_one W0
  have x0 := cell_stays hba x0
  have x1 := cell_stays hba x1
  have x2 := cell_stays hba x2
  have x3 := cell_stays hba x3
  have x4 := cell_stays hba x4
  have x5 := cell_stays hba x5
  have f0 := froz_stays hba y0 f0
  have f1 := froz_stays hba y1 f1
  have f2 := froz_stays hba y2 f2
  have y0 := cell_stays hba y0
  have y1 := cell_stays hba y1
  have y2 := cell_stays hba y2
  have hb := hb0.trans (hba.mono hb0.size)
  have hsc := Scale_rd R C hR hC _ _ _ _ _ (.slice b (R * C) cap') z2 1 S2 (by omega) _ hkz (by unfold ZB; rw [Int.pow_succ, Int.pow_zero]; decide) (h2.below hb)
  rw [hs0] at hsc hkz
  have hsz : (W0.alloc (.cells #[.int .u64 1] 22)).heap.size = w.heap.size + 4 := by simp [hs0]
  rw [hW0] at x0 x1 x2 x3 x4 x5 y0 y1 y2 f0 f1 f2 hsc hb hsz
  have HR1 := Lib.hid h1
  have HR2 := Lib.hid h2
  have HSC := Lib.hid hsc
  have HB := Lib.hid hb
  have HSZ := Lib.hid hsz
  clear h1 h2 hb0 hs0 hba hkz hsc hb hsz hW0
  go_enter Try.func23, Try.ntmps23
  go_wp2_with fail
  refine HSC.out.mono ?_
  rintro e w2 ⟨l2, rfl, hrd2, hb2⟩
  have hbx := box_mat w2 (.int .i64 R) (.int .i64 C) (.slice (some ⟨l2, 0, none⟩) (R * C) (R * C)) 34
  have hb3 := hb2.trans (hbx.1.mono hb2.size)
  have hs3 := hb3.size
  rw [HSZ.out] at hs3
  replace x0 := cell_stays hb3 x0
  replace x1 := cell_stays hb3 x1
  replace x2 := cell_stays hb3 x2
  replace f0 := froz_stays hb3 y0 f0
  replace f1 := froz_stays hb3 y1 f1
  replace f2 := froz_stays hb3 y2 f2
  replace y0 := cell_stays hb3 y0
  replace y1 := cell_stays hb3 y1
  replace y2 := cell_stays hb3 y2
  have HB3 := Lib.hid (HB.out.trans (hb3.mono HB.out.size))
  have hadd := Add_any R C hR hC _ _ z1 _ S1 (1 + S2) (by omega) _ (HR1.out.below HB3.out) (hrd2.below hbx.1)
  have HADD := Lib.hid hadd
  obtain ⟨-, n0, n1, n2⟩ := hbx
  clear x3 x4 x5 hb2 hb3 hrd2 hadd
  go_wp2_with fail
  refine HADD.out.mono ?_
  rintro e w5 ⟨l5, bm, rfl, hz5, hb5⟩
  have hs5 := Nat.le_trans hs3 hb5.size
  replace f0 := froz_stays hb5 y0 f0
  replace f1 := froz_stays hb5 y1 f1
  replace f2 := froz_stays hb5 y2 f2
  replace y0 := cell_stays hb5 y0
  replace y1 := cell_stays hb5 y1
  replace y2 := cell_stays hb5 y2
  have HB5 := Lib.hid (HB3.out.trans (hb5.mono HB3.out.size))
  have l1 := hz5.own
  have l2 := hz5.lt
  have r3 := ((hz5.set (a := ⟨w.heap.size + 2, 0, none⟩) (by show w.heap.size + 2 < _; omega) (by show w.heap.size + 2 ≠ l5; omega) (.int .i64 R)).set (a := ⟨w.heap.size + 2, 1, none⟩) (by show w.heap.size + 2 < _; omega) (by show w.heap.size + 2 ≠ l5; omega) (.int .i64 C)).set (a := ⟨w.heap.size + 2, 2, none⟩) (by show w.heap.size + 2 < _; omega) (by show w.heap.size + 2 ≠ l5; omega) (.slice (some ⟨l5, 0, none⟩) (R * C) (R * C))
  obtain ⟨r0, r1, r2⟩ := stored_own3 (v0 := .int .i64 R) (v1 := .int .i64 C) (v2 := .slice (some ⟨l5, 0, none⟩) (R * C) (R * C)) y0 y1 y2
  have HR3 := Lib.hid r3
  clear r3 hz5 hb5
  go_wp2_with fail
  refine bodyPost_ret (v := .tuple #[.agg #[.int .i64 R, .int .i64 C, .slice (some ⟨l5, 0, none⟩) (R * C) (R * C)], .int .i64 0]) ?_ rfl ⟨l5, rfl, ?_, ?_⟩
  · simp [results, Try.results23, go_sem, r0, r1, r2]
  · exact RdN.congr (HR3.out.read (Nat.le_trans (Nat.mul_le_mul hR hC) (by decide)) hS (fun q hq => (HR1.out.zb hq).add ((show ZB 1 (-1) by unfold ZB; rw [Int.pow_succ, Int.pow_zero]; decide).mul (HR2.out.zb hq)))) (fun q _ => by omega)
  · repeat (with_reducible refine Below.setCell ?_ (by show w.heap.size ≤ w.heap.size + 2; omega) _)
    exact HB5.out
end Go.Proofs.Ytdlpemmoobbgnaa

namespace Go.Proofs.Ytdlpemmoobbgnaa
open Go.RowKit

theorem Inverse_ok (n : Nat) (p : Int) (hn : n ≤ 64) (hp : primeB p = true) (s : Value) (x : Nat → Raw) (w : World) (hr : RdL w s (n * n) x) (hd : detM p n x ≠ 0) :
    Calls Try.prog 20 #[.agg #[.int .i64 n, .int .i64 n, s], .int .u64 p] w fun e w' => ∃ lb, e = .returned (.tuple #[.agg #[.int .i64 n, .int .i64 n, .slice (some ⟨lb, 0, none⟩) (n * n) (n * n)], .int .i64 0]) ∧
      RdL w' (.slice (some ⟨lb, 0, none⟩) (n * n) (n * n)) (n * n) (fun q => small (invG p n x q)) ∧ Below w.heap.size w w' := by
  obtain ⟨p0, p1⟩ := primeB_bd hp
  have he : openE n n (n * n) p ((n : Int) == n) = 0 := by rw [show ((n : Int) == n) = true by simp]; exact openE_good hn hn rfl hp
  have hi : invE n n (n * n) x p = 0 := by unfold invE; rw [if_pos he, Int.toNat_natCast, if_neg (fun h => hd ((det_rank hp n x).1 h))]
  refine (Inverse_any n n p (by omega) s (n * n) x w hr).mono ?_
  rw [hi, Int.toNat_natCast]
  rintro e w' ⟨v, rfl, hans, hb⟩
  obtain ⟨lb, M, rfl, hls⟩ := hans.1 rfl
  exact ⟨lb, rfl, small_read (y := invG p n x) hls (Nat.mul_le_mul hn hn) (fun q hq => by have := inv_bd p0 n x q hq; omega), hb⟩

theorem Inverse_no (n : Nat) (p : Int) (hn : n ≤ 64) (hp : primeB p = true) (s : Value) (x : Nat → Raw) (w : World) (hr : RdL w s (n * n) x) (hd : detM p n x = 0) :
    Calls Try.prog 20 #[.agg #[.int .i64 n, .int .i64 n, s], .int .u64 p] w fun e w' => e = .returned (.tuple #[.agg #[.int .i64 0, .int .i64 0, .slice none 0 0], .int .i64 6]) ∧ Below w.heap.size w w' := by
  obtain ⟨p0, p1⟩ := primeB_bd hp
  have he : openE n n (n * n) p ((n : Int) == n) = 0 := by rw [show ((n : Int) == n) = true by simp]; exact openE_good hn hn rfl hp
  have hi : invE n n (n * n) x p = 6 := by unfold invE; rw [if_pos he, Int.toNat_natCast, if_pos ((det_rank hp n x).2 hd)]
  refine (Inverse_any n n p (by omega) s (n * n) x w hr).mono ?_
  rw [hi]
  rintro e w' ⟨v, rfl, hans, hb⟩
  obtain rfl := hans.2 (by decide)
  exact ⟨rfl, hb⟩

theorem prod_bd {x y p : Int} (hx : 0 ≤ x ∧ x < p) (hy : 0 ≤ y ∧ y < p) (hp : p < 2147483648) : 0 ≤ x * y ∧ x * y ≤ 4611686018427387904 :=
  ⟨Int.mul_nonneg hx.1 hy.1, Int.le_trans (Int.mul_le_mul (show x ≤ 2147483648 by omega) (show y ≤ 2147483648 by omega) hy.1 (by omega)) (by decide)⟩

theorem sound_true (n : Nat) (hn : n ≤ 64) (l : Nat) (w : World) :
    Calls Try.prog 15 #[.agg #[.int .i64 n, .int .i64 n, .slice (some ⟨l, 0, none⟩) (n * n) (n * n)]] w fun e w' => e = .returned (.bool true) ∧ Below w.heap.size w w' := by
  have hnn : n * n ≤ 4096 := Nat.mul_le_mul hn hn
  have h := sound_any n n (some ⟨l, 0, none⟩) (n * n) (n * n) (by omega) w
  rw [show soundB n n (n * n) = true by unfold soundB sideB; simp; omega] at h
  exact h

set_option maxHeartbeats 8000000 in
set_option maxRecDepth 100000 in
theorem Dets_zero (n : Nat) (p : Int) (hn : n ≤ 64) (hp : primeB p = true) (sa sb : Value) (xa xb : Nat → Raw) (w : World) (ha : RdL w sa (n * n) xa) (hb : RdL w sb (n * n) xb) (hsa : ∀ i, i < n * n → (xa i).n ≤ 1048576) (hsb : ∀ i, i < n * n → (xb i).n ≤ 1048576) (hd : detM p n xa = 0) :
    Calls Try.prog 4 #[.agg #[.int .i64 n, .int .i64 n, sa], .agg #[.int .i64 n, .int .i64 n, sb], .int .u64 p] w fun e w' => e = .returned (.bool true) ∧ Below w.heap.size w w' := by
  obtain ⟨a, cap, rfl, hla⟩ := ha.slice
  obtain ⟨b, cap', rfl, hlb⟩ := hb.slice
  obtain ⟨p0, p1⟩ := primeB_bd hp
  have hnn : n * n ≤ 4096 := Nat.mul_le_mul hn hn
  have hsnd : soundB n n (n * n) = true := by unfold soundB sideB; simp; omega
  have hsA := fun W => sound_any n n a (n * n) cap hla W
  have hsB := fun W => sound_any n n b (n * n) cap' hlb W
  rw [hsnd] at hsA hsB
  have hpr := fun W => prime_any p (by omega) W
  rw [hp] at hpr
  obtain ⟨W0, hW0, hsix, hb0, hs0⟩ := pair_boxes w (.int .i64 n) (.int .i64 n) (.slice a (n * n) cap) (.int .i64 n) (.int .i64 n) (.slice b (n * n) cap') 34
  have hdA := fun W h => Det_rd n p hn hp (.slice a (n * n) cap) xa W h
  have hdB := fun W h => Det_rd n p hn hp (.slice b (n * n) cap') xb W h
  have hdX := fun (s : Value) (xs : Nat → Raw) W h => Det_rd n p hn hp s xs W h
  have hpro := fun (xab : Nat → Raw) h => det_product (n := n) (xa := xa) (xb := xb) (xab := xab) hp h
  have htur := fun (xt : Nat → Raw) h => det_turn (n := n) (xa := xa) (xt := xt) hp h
  have huni := fun (xu : Nat → Raw) h => det_unit (n := n) (xu := xu) hp h
  have hpbd := prod_bd (detM_bd p0 n xa) (detM_bd p0 n xb) p1
  have hxbd := detM_bd p0 n xa
  have hinv := fun W h => Inverse_no n p hn hp (.slice a (n * n) cap) xa W h hd
  have HINV := Lib.hid hinv
  clear hinv
  rw [hW0] at hsix hb0
  obtain ⟨dx, hdx⟩ : ∃ d, d = detM p n xa := ⟨_, rfl⟩
  obtain ⟨dy, hdy⟩ : ∃ d, d = detM p n xb := ⟨_, rfl⟩
  rw [← hdx] at hd hpbd hxbd
  rw [← hdy] at hpbd
  simp only [← hdx] at hdA hpro htur
  simp only [← hdy] at hdB hpro
  obtain ⟨q0, q1⟩ := hpbd
  obtain ⟨q2, q3⟩ := hxbd
  have HA := Lib.hid ha
  have HB := Lib.hid hb
  have HSA := Lib.hid hsa
  have HSB := Lib.hid hsb
  have HSDA := Lib.hid hsA
  have HSDB := Lib.hid hsB
  have HPR := Lib.hid hpr
  have HP := Lib.hid hp
  have HDA := Lib.hid hdA
  have HDB := Lib.hid hdB
  have HDX := Lib.hid hdX
  have HPRO := Lib.hid hpro
  have HTUR := Lib.hid htur
  have HUNI := Lib.hid huni
  have H0 := Lib.hid (show Has _ [(_, _), (_, _), (_, _), (_, _), (_, _), (_, _)] from ⟨hsix.1, hsix.2.1, hsix.2.2.1, hsix.2.2.2.1, hsix.2.2.2.2.1, hsix.2.2.2.2.2, trivial⟩)
  have G0 := Lib.hid (And.intro hb0 hb0.size)
  have HDX0 := Lib.hid hdx
  clear ha hb hsa hsb hsA hsB hpr hp hdA hdB hdX hpro htur huni hsix hb0 hs0 hdx hdy hsnd hW0 W0
  subst hd
  go_enter Try.func4, Try.ntmps4
  go_wp2_with fail
  refine (wakes_any _).mono ?_
  rintro e w1 ⟨rfl, hbw1⟩
  have G1 := Lib.hid (stage G0.out.1 G0.out.2 hbw1)
  have H1 := Lib.hid (H0.out.below hbw1)
  have B1 := hbw1
  clear hbw1 B1
  obtain ⟨x0, x1, x2, y0, y1, y2, -⟩ := H1.out
  dsimp only at x0 x1 x2 y0 y1 y2
  go_wp2_with fail
  refine (HSDA.out _).mono ?_
  rintro e w2 ⟨rfl, hbw2⟩
  have G2 := Lib.hid (stage G1.out.1 G1.out.2 hbw2)
  have H2 := Lib.hid (H1.out.below hbw2)
  have B2 := hbw2
  clear x0 x1 x2 y0 y1 y2 hbw2 B2
  obtain ⟨x0, x1, x2, y0, y1, y2, -⟩ := H2.out
  dsimp only at x0 x1 x2 y0 y1 y2
  go_wp2_with fail
  refine (HSDB.out _).mono ?_
  rintro e w3 ⟨rfl, hbw3⟩
  have G3 := Lib.hid (stage G2.out.1 G2.out.2 hbw3)
  have H3 := Lib.hid (H2.out.below hbw3)
  have B3 := hbw3
  clear x0 x1 x2 y0 y1 y2 hbw3 B3
  obtain ⟨x0, x1, x2, y0, y1, y2, -⟩ := H3.out
  dsimp only at x0 x1 x2 y0 y1 y2
  go_wp2_with (go_at_call 14; refine (HPR.out _).mono ?_; rintro e w' ⟨rfl, rfl⟩)
  refine (Mul_rd n n n hn hn hn _ _ _ _ 1048576 1048576 (by omega) _ ((HA.out.below G3.out.1).rdn HSA.out) ((HB.out.below G3.out.1).rdn HSB.out)).mono ?_
  rintro e w4 ⟨l4, rfl, ⟨xab, hrd4, hxab⟩, hbw4⟩
  have G4 := Lib.hid (stage3 G3.out hbw4 (.int .i64 n) (.int .i64 n) (.slice (some ⟨l4, 0, none⟩) (n * n) (n * n)) 34)
  have H4 := Lib.hid ((H3.out.below hbw4).box (.int .i64 n) (.int .i64 n) (.slice (some ⟨l4, 0, none⟩) (n * n) (n * n)) 34)
  have bx4 := box_mat w4 (.int .i64 n) (.int .i64 n) (.slice (some ⟨l4, 0, none⟩) (n * n) (n * n)) 34
  have B4 := hbw4.trans (bx4.1.mono hbw4.size)
  have RAB_4 := Lib.hid (hrd4.below bx4.1)
  have HPA := Lib.hid (HPRO.out xab (fun t ht => (hxab t ht).2))
  clear hrd4 hxab HPRO
  clear x0 x1 x2 y0 y1 y2 hbw4 B4 bx4
  obtain ⟨m0, m1, m2, x0, x1, x2, y0, y1, y2, -⟩ := H4.out
  dsimp only at m0 m1 m2 x0 x1 x2 y0 y1 y2
  go_wp2_with fail
  refine (Turn_rd n n hn hn _ _ 1048576 (by omega) _ ((HA.out.below G4.out.1).rdn HSA.out)).mono ?_
  rintro e w5 ⟨l5, rfl, ⟨xt, hrd5, hxt⟩, hbw5⟩
  have G5 := Lib.hid (stage3 G4.out hbw5 (.int .i64 n) (.int .i64 n) (.slice (some ⟨l5, 0, none⟩) (n * n) (n * n)) 34)
  have H5 := Lib.hid ((H4.out.below hbw5).box (.int .i64 n) (.int .i64 n) (.slice (some ⟨l5, 0, none⟩) (n * n) (n * n)) 34)
  have bx5 := box_mat w5 (.int .i64 n) (.int .i64 n) (.slice (some ⟨l5, 0, none⟩) (n * n) (n * n)) 34
  have B5 := hbw5.trans (bx5.1.mono hbw5.size)
  have RAB_5 := Lib.hid (RAB_4.out.below B5)
  have RT_5 := Lib.hid (hrd5.below bx5.1)
  have HTA := Lib.hid (HTUR.out xt (fun t ht => (hxt t ht).2))
  clear hrd5 hxt HTUR
  clear m0 m1 m2 x0 x1 x2 y0 y1 y2 hbw5 B5 bx5
  obtain ⟨t0, t1, t2, m0, m1, m2, x0, x1, x2, y0, y1, y2, -⟩ := H5.out
  dsimp only at t0 t1 t2 m0 m1 m2 x0 x1 x2 y0 y1 y2
  go_wp2_with fail
  refine (HDA.out _ (HA.out.below G5.out.1)).mono ?_
  rintro e w6 ⟨rfl, hbw6⟩
  have G6 := Lib.hid (stage G5.out.1 G5.out.2 hbw6)
  have H6 := Lib.hid (H5.out.below hbw6)
  have B6 := hbw6
  have RAB_6 := Lib.hid (RAB_5.out.below B6)
  have RT_6 := Lib.hid (RT_5.out.below B6)
  clear m0 m1 m2 t0 t1 t2 x0 x1 x2 y0 y1 y2 hbw6 B6
  obtain ⟨t0, t1, t2, m0, m1, m2, x0, x1, x2, y0, y1, y2, -⟩ := H6.out
  dsimp only at t0 t1 t2 m0 m1 m2 x0 x1 x2 y0 y1 y2
  go_wp2_with fail
  refine (HDB.out _ (HB.out.below G6.out.1)).mono ?_
  rintro e w7 ⟨rfl, hbw7⟩
  have G7 := Lib.hid (stage G6.out.1 G6.out.2 hbw7)
  have H7 := Lib.hid (H6.out.below hbw7)
  have B7 := hbw7
  have RAB_7 := Lib.hid (RAB_6.out.below B7)
  have RT_7 := Lib.hid (RT_6.out.below B7)
  clear m0 m1 m2 t0 t1 t2 x0 x1 x2 y0 y1 y2 hbw7 B7
  obtain ⟨t0, t1, t2, m0, m1, m2, x0, x1, x2, y0, y1, y2, -⟩ := H7.out
  dsimp only at t0 t1 t2 m0 m1 m2 x0 x1 x2 y0 y1 y2
  go_wp2_with fail
  refine (HDX.out _ _ _ RAB_7.out).mono ?_
  rw [HPA.out]
  rintro e w8 ⟨rfl, hbw8⟩
  have G8 := Lib.hid (stage G7.out.1 G7.out.2 hbw8)
  have H8 := Lib.hid (H7.out.below hbw8)
  have B8 := hbw8
  have RAB_8 := Lib.hid (RAB_7.out.below B8)
  have RT_8 := Lib.hid (RT_7.out.below B8)
  clear m0 m1 m2 t0 t1 t2 x0 x1 x2 y0 y1 y2 hbw8 B8
  obtain ⟨t0, t1, t2, m0, m1, m2, x0, x1, x2, y0, y1, y2, -⟩ := H8.out
  dsimp only at t0 t1 t2 m0 m1 m2 x0 x1 x2 y0 y1 y2
  go_wp2_with fail
  refine (HDX.out _ _ _ RT_8.out).mono ?_
  rw [HTA.out]
  rintro e w9 ⟨rfl, hbw9⟩
  have G9 := Lib.hid (stage G8.out.1 G8.out.2 hbw9)
  have H9 := Lib.hid (H8.out.below hbw9)
  have B9 := hbw9
  have RAB_9 := Lib.hid (RAB_8.out.below B9)
  have RT_9 := Lib.hid (RT_8.out.below B9)
  clear m0 m1 m2 t0 t1 t2 x0 x1 x2 y0 y1 y2 hbw9 B9
  obtain ⟨-, -, -, -, -, -, x0, x1, x2, y0, y1, y2, -⟩ := H9.out
  dsimp only at x0 x1 x2 y0 y1 y2
  go_wp2_with fail
  refine (Unit_rd n hn _).mono ?_
  rintro e wa ⟨la, rfl, ⟨xu, hrda, hxu⟩, hbwa⟩
  have G10 := Lib.hid (stage3 G9.out hbwa (.int .i64 n) (.int .i64 n) (.slice (some ⟨la, 0, none⟩) (n * n) (n * n)) 34)
  have H10 := Lib.hid ((H9.out.below hbwa).box (.int .i64 n) (.int .i64 n) (.slice (some ⟨la, 0, none⟩) (n * n) (n * n)) 34)
  have bx10 := box_mat wa (.int .i64 n) (.int .i64 n) (.slice (some ⟨la, 0, none⟩) (n * n) (n * n)) 34
  have B10 := hbwa.trans (bx10.1.mono hbwa.size)
  have RU_10 := Lib.hid (hrda.below bx10.1)
  have HUA := Lib.hid (HUNI.out xu (fun t ht => (hxu t ht).2))
  have RUN := Lib.hid (show RdN _ (.slice (some ⟨la, 0, none⟩) (n * n) (n * n)) (n * n) _ 1 from ⟨xu, RU_10.out, hxu⟩)
  clear hrda hxu HUNI
  clear x0 x1 x2 y0 y1 y2 hbwa B10 bx10
  obtain ⟨u0, u1, u2, -, -, -, -, -, -, x0, x1, x2, -, -, -, -⟩ := H10.out
  dsimp only at u0 u1 u2 x0 x1 x2
  go_wp2_with fail
  refine (HDX.out _ _ _ RU_10.out).mono ?_
  rw [HUA.out]
  rintro e wb ⟨rfl, hbwb⟩
  have G11 := Lib.hid (stage G10.out.1 G10.out.2 hbwb)
  have H11 := Lib.hid (H10.out.below hbwb)
  have B11 := hbwb
  have RU_11 := Lib.hid (RU_10.out.below B11)
  have RUN_11 := Lib.hid (RUN.out.below B11)
  clear u0 u1 u2 x0 x1 x2 hbwb B11
  obtain ⟨u0, u1, u2, -, -, -, -, -, -, x0, x1, x2, -, -, -, -⟩ := H11.out
  dsimp only at u0 u1 u2 x0 x1 x2
  go_wp2_with fail
  refine (HINV.out _ (HA.out.below G11.out.1)).mono ?_
  rintro e wc ⟨rfl, hbc⟩
  have Gc := Lib.hid (stage3 G11.out hbc (.int .i64 0) (.int .i64 0) (.slice none 0 0) 34)
  obtain ⟨-, k0, k1, k2⟩ := box_mat wc (.int .i64 0) (.int .i64 0) (.slice none 0 0) 34
  clear u0 u1 u2 x0 x1 x2 hbc
  go_wp2_with fail
  refine (alikeMats_yes _ _ 0 0 0 (fun _ => small 0) (fun _ => small 0) _ (rdl_nil _ _) (rdl_nil _ _) (fun i hi => absurd hi (Nat.not_lt_zero i))).mono ?_
  rintro e wd ⟨rfl, hbd⟩
  have Gd := Lib.hid (stage Gc.out.1 Gc.out.2 hbd)
  clear hbd
  go_wp2_with fail
  go_ret
  exact ⟨rfl, Gd.out.1⟩

set_option maxHeartbeats 8000000 in
set_option maxRecDepth 100000 in
theorem Dets_inv (n : Nat) (p : Int) (hn : n ≤ 64) (hp : primeB p = true) (sa sb : Value) (xa xb : Nat → Raw) (w : World) (ha : RdL w sa (n * n) xa) (hb : RdL w sb (n * n) xb) (hsa : ∀ i, i < n * n → (xa i).n ≤ 1048576) (hsb : ∀ i, i < n * n → (xb i).n ≤ 1048576) (hd : detM p n xa ≠ 0) :
    Calls Try.prog 4 #[.agg #[.int .i64 n, .int .i64 n, sa], .agg #[.int .i64 n, .int .i64 n, sb], .int .u64 p] w fun e w' => e = .returned (.bool true) ∧ Below w.heap.size w w' := by
  obtain ⟨a, cap, rfl, hla⟩ := ha.slice
  obtain ⟨b, cap', rfl, hlb⟩ := hb.slice
  obtain ⟨p0, p1⟩ := primeB_bd hp
  have hnn : n * n ≤ 4096 := Nat.mul_le_mul hn hn
  have hsnd : soundB n n (n * n) = true := by unfold soundB sideB; simp; omega
  have hsA := fun W => sound_any n n a (n * n) cap hla W
  have hsB := fun W => sound_any n n b (n * n) cap' hlb W
  rw [hsnd] at hsA hsB
  have hpr := fun W => prime_any p (by omega) W
  rw [hp] at hpr
  obtain ⟨W0, hW0, hsix, hb0, hs0⟩ := pair_boxes w (.int .i64 n) (.int .i64 n) (.slice a (n * n) cap) (.int .i64 n) (.int .i64 n) (.slice b (n * n) cap') 34
  have hdA := fun W h => Det_rd n p hn hp (.slice a (n * n) cap) xa W h
  have hdB := fun W h => Det_rd n p hn hp (.slice b (n * n) cap') xb W h
  have hdX := fun (s : Value) (xs : Nat → Raw) W h => Det_rd n p hn hp s xs W h
  have hpro := fun (xab : Nat → Raw) h => det_product (n := n) (xa := xa) (xb := xb) (xab := xab) hp h
  have htur := fun (xt : Nat → Raw) h => det_turn (n := n) (xa := xa) (xt := xt) hp h
  have huni := fun (xu : Nat → Raw) h => det_unit (n := n) (xu := xu) hp h
  have hpbd := prod_bd (detM_bd p0 n xa) (detM_bd p0 n xb) p1
  have hxbd := detM_bd p0 n xa
  have hinv := fun W h => Inverse_ok n p hn hp (.slice a (n * n) cap) xa W h hd
  have hivb := inv_bd p0 n xa
  obtain ⟨hil, hir⟩ := inv_left hp hd
  have HINV := Lib.hid hinv
  have HIVB := Lib.hid hivb
  have HIL := Lib.hid hil
  have HIR := Lib.hid hir
  clear hinv hivb hil hir
  rw [hW0] at hsix hb0
  obtain ⟨dx, hdx⟩ : ∃ d, d = detM p n xa := ⟨_, rfl⟩
  obtain ⟨dy, hdy⟩ : ∃ d, d = detM p n xb := ⟨_, rfl⟩
  rw [← hdx] at hd hpbd hxbd
  rw [← hdy] at hpbd
  simp only [← hdx] at hdA hpro htur
  simp only [← hdy] at hdB hpro
  obtain ⟨q0, q1⟩ := hpbd
  obtain ⟨q2, q3⟩ := hxbd
  have HA := Lib.hid ha
  have HB := Lib.hid hb
  have HSA := Lib.hid hsa
  have HSB := Lib.hid hsb
  have HSDA := Lib.hid hsA
  have HSDB := Lib.hid hsB
  have HPR := Lib.hid hpr
  have HP := Lib.hid hp
  have HDA := Lib.hid hdA
  have HDB := Lib.hid hdB
  have HDX := Lib.hid hdX
  have HPRO := Lib.hid hpro
  have HTUR := Lib.hid htur
  have HUNI := Lib.hid huni
  have H0 := Lib.hid (show Has _ [(_, _), (_, _), (_, _), (_, _), (_, _), (_, _)] from ⟨hsix.1, hsix.2.1, hsix.2.2.1, hsix.2.2.2.1, hsix.2.2.2.2.1, hsix.2.2.2.2.2, trivial⟩)
  have G0 := Lib.hid (And.intro hb0 hb0.size)
  have HDX0 := Lib.hid hdx
  clear ha hb hsa hsb hsA hsB hpr hp hdA hdB hdX hpro htur huni hsix hb0 hs0 hdx hdy hsnd hW0 W0
  have hd0 : (dx == 0) = false := beq_eq_false_iff_ne.2 hd
  clear hd
  go_enter Try.func4, Try.ntmps4
  go_wp2_with fail
  refine (wakes_any _).mono ?_
  rintro e w1 ⟨rfl, hbw1⟩
  have G1 := Lib.hid (stage G0.out.1 G0.out.2 hbw1)
  have H1 := Lib.hid (H0.out.below hbw1)
  have B1 := hbw1
  clear hbw1 B1
  obtain ⟨x0, x1, x2, y0, y1, y2, -⟩ := H1.out
  dsimp only at x0 x1 x2 y0 y1 y2
  go_wp2_with fail
  refine (HSDA.out _).mono ?_
  rintro e w2 ⟨rfl, hbw2⟩
  have G2 := Lib.hid (stage G1.out.1 G1.out.2 hbw2)
  have H2 := Lib.hid (H1.out.below hbw2)
  have B2 := hbw2
  clear x0 x1 x2 y0 y1 y2 hbw2 B2
  obtain ⟨x0, x1, x2, y0, y1, y2, -⟩ := H2.out
  dsimp only at x0 x1 x2 y0 y1 y2
  go_wp2_with fail
  refine (HSDB.out _).mono ?_
  rintro e w3 ⟨rfl, hbw3⟩
  have G3 := Lib.hid (stage G2.out.1 G2.out.2 hbw3)
  have H3 := Lib.hid (H2.out.below hbw3)
  have B3 := hbw3
  clear x0 x1 x2 y0 y1 y2 hbw3 B3
  obtain ⟨x0, x1, x2, y0, y1, y2, -⟩ := H3.out
  dsimp only at x0 x1 x2 y0 y1 y2
  go_wp2_with (go_at_call 14; refine (HPR.out _).mono ?_; rintro e w' ⟨rfl, rfl⟩)
  refine (Mul_rd n n n hn hn hn _ _ _ _ 1048576 1048576 (by omega) _ ((HA.out.below G3.out.1).rdn HSA.out) ((HB.out.below G3.out.1).rdn HSB.out)).mono ?_
  rintro e w4 ⟨l4, rfl, ⟨xab, hrd4, hxab⟩, hbw4⟩
  have G4 := Lib.hid (stage3 G3.out hbw4 (.int .i64 n) (.int .i64 n) (.slice (some ⟨l4, 0, none⟩) (n * n) (n * n)) 34)
  have H4 := Lib.hid ((H3.out.below hbw4).box (.int .i64 n) (.int .i64 n) (.slice (some ⟨l4, 0, none⟩) (n * n) (n * n)) 34)
  have bx4 := box_mat w4 (.int .i64 n) (.int .i64 n) (.slice (some ⟨l4, 0, none⟩) (n * n) (n * n)) 34
  have B4 := hbw4.trans (bx4.1.mono hbw4.size)
  have RAB_4 := Lib.hid (hrd4.below bx4.1)
  have HPA := Lib.hid (HPRO.out xab (fun t ht => (hxab t ht).2))
  clear hrd4 hxab HPRO
  clear x0 x1 x2 y0 y1 y2 hbw4 B4 bx4
  obtain ⟨m0, m1, m2, x0, x1, x2, y0, y1, y2, -⟩ := H4.out
  dsimp only at m0 m1 m2 x0 x1 x2 y0 y1 y2
  go_wp2_with fail
  refine (Turn_rd n n hn hn _ _ 1048576 (by omega) _ ((HA.out.below G4.out.1).rdn HSA.out)).mono ?_
  rintro e w5 ⟨l5, rfl, ⟨xt, hrd5, hxt⟩, hbw5⟩
  have G5 := Lib.hid (stage3 G4.out hbw5 (.int .i64 n) (.int .i64 n) (.slice (some ⟨l5, 0, none⟩) (n * n) (n * n)) 34)
  have H5 := Lib.hid ((H4.out.below hbw5).box (.int .i64 n) (.int .i64 n) (.slice (some ⟨l5, 0, none⟩) (n * n) (n * n)) 34)
  have bx5 := box_mat w5 (.int .i64 n) (.int .i64 n) (.slice (some ⟨l5, 0, none⟩) (n * n) (n * n)) 34
  have B5 := hbw5.trans (bx5.1.mono hbw5.size)
  have RAB_5 := Lib.hid (RAB_4.out.below B5)
  have RT_5 := Lib.hid (hrd5.below bx5.1)
  have HTA := Lib.hid (HTUR.out xt (fun t ht => (hxt t ht).2))
  clear hrd5 hxt HTUR
  clear m0 m1 m2 x0 x1 x2 y0 y1 y2 hbw5 B5 bx5
  obtain ⟨t0, t1, t2, m0, m1, m2, x0, x1, x2, y0, y1, y2, -⟩ := H5.out
  dsimp only at t0 t1 t2 m0 m1 m2 x0 x1 x2 y0 y1 y2
  go_wp2_with fail
  refine (HDA.out _ (HA.out.below G5.out.1)).mono ?_
  rintro e w6 ⟨rfl, hbw6⟩
  have G6 := Lib.hid (stage G5.out.1 G5.out.2 hbw6)
  have H6 := Lib.hid (H5.out.below hbw6)
  have B6 := hbw6
  have RAB_6 := Lib.hid (RAB_5.out.below B6)
  have RT_6 := Lib.hid (RT_5.out.below B6)
  clear m0 m1 m2 t0 t1 t2 x0 x1 x2 y0 y1 y2 hbw6 B6
  obtain ⟨t0, t1, t2, m0, m1, m2, x0, x1, x2, y0, y1, y2, -⟩ := H6.out
  dsimp only at t0 t1 t2 m0 m1 m2 x0 x1 x2 y0 y1 y2
  go_wp2_with fail
  refine (HDB.out _ (HB.out.below G6.out.1)).mono ?_
  rintro e w7 ⟨rfl, hbw7⟩
  have G7 := Lib.hid (stage G6.out.1 G6.out.2 hbw7)
  have H7 := Lib.hid (H6.out.below hbw7)
  have B7 := hbw7
  have RAB_7 := Lib.hid (RAB_6.out.below B7)
  have RT_7 := Lib.hid (RT_6.out.below B7)
  clear m0 m1 m2 t0 t1 t2 x0 x1 x2 y0 y1 y2 hbw7 B7
  obtain ⟨t0, t1, t2, m0, m1, m2, x0, x1, x2, y0, y1, y2, -⟩ := H7.out
  dsimp only at t0 t1 t2 m0 m1 m2 x0 x1 x2 y0 y1 y2
  go_wp2_with fail
  refine (HDX.out _ _ _ RAB_7.out).mono ?_
  rw [HPA.out]
  rintro e w8 ⟨rfl, hbw8⟩
  have G8 := Lib.hid (stage G7.out.1 G7.out.2 hbw8)
  have H8 := Lib.hid (H7.out.below hbw8)
  have B8 := hbw8
  have RAB_8 := Lib.hid (RAB_7.out.below B8)
  have RT_8 := Lib.hid (RT_7.out.below B8)
  clear m0 m1 m2 t0 t1 t2 x0 x1 x2 y0 y1 y2 hbw8 B8
  obtain ⟨t0, t1, t2, m0, m1, m2, x0, x1, x2, y0, y1, y2, -⟩ := H8.out
  dsimp only at t0 t1 t2 m0 m1 m2 x0 x1 x2 y0 y1 y2
  go_wp2_with fail
  refine (HDX.out _ _ _ RT_8.out).mono ?_
  rw [HTA.out]
  rintro e w9 ⟨rfl, hbw9⟩
  have G9 := Lib.hid (stage G8.out.1 G8.out.2 hbw9)
  have H9 := Lib.hid (H8.out.below hbw9)
  have B9 := hbw9
  have RAB_9 := Lib.hid (RAB_8.out.below B9)
  have RT_9 := Lib.hid (RT_8.out.below B9)
  clear m0 m1 m2 t0 t1 t2 x0 x1 x2 y0 y1 y2 hbw9 B9
  obtain ⟨-, -, -, -, -, -, x0, x1, x2, y0, y1, y2, -⟩ := H9.out
  dsimp only at x0 x1 x2 y0 y1 y2
  go_wp2_with fail
  refine (Unit_rd n hn _).mono ?_
  rintro e wa ⟨la, rfl, ⟨xu, hrda, hxu⟩, hbwa⟩
  have G10 := Lib.hid (stage3 G9.out hbwa (.int .i64 n) (.int .i64 n) (.slice (some ⟨la, 0, none⟩) (n * n) (n * n)) 34)
  have H10 := Lib.hid ((H9.out.below hbwa).box (.int .i64 n) (.int .i64 n) (.slice (some ⟨la, 0, none⟩) (n * n) (n * n)) 34)
  have bx10 := box_mat wa (.int .i64 n) (.int .i64 n) (.slice (some ⟨la, 0, none⟩) (n * n) (n * n)) 34
  have B10 := hbwa.trans (bx10.1.mono hbwa.size)
  have RU_10 := Lib.hid (hrda.below bx10.1)
  have HUA := Lib.hid (HUNI.out xu (fun t ht => (hxu t ht).2))
  have RUN := Lib.hid (show RdN _ (.slice (some ⟨la, 0, none⟩) (n * n) (n * n)) (n * n) _ 1 from ⟨xu, RU_10.out, hxu⟩)
  clear hrda hxu HUNI
  clear x0 x1 x2 y0 y1 y2 hbwa B10 bx10
  obtain ⟨u0, u1, u2, -, -, -, -, -, -, x0, x1, x2, -, -, -, -⟩ := H10.out
  dsimp only at u0 u1 u2 x0 x1 x2
  go_wp2_with fail
  refine (HDX.out _ _ _ RU_10.out).mono ?_
  rw [HUA.out]
  rintro e wb ⟨rfl, hbwb⟩
  have G11 := Lib.hid (stage G10.out.1 G10.out.2 hbwb)
  have H11 := Lib.hid (H10.out.below hbwb)
  have B11 := hbwb
  have RU_11 := Lib.hid (RU_10.out.below B11)
  have RUN_11 := Lib.hid (RUN.out.below B11)
  clear u0 u1 u2 x0 x1 x2 hbwb B11
  obtain ⟨u0, u1, u2, -, -, -, -, -, -, x0, x1, x2, -, -, -, -⟩ := H11.out
  dsimp only at u0 u1 u2 x0 x1 x2
  go_wp2_with fail
  refine (HINV.out _ (HA.out.below G11.out.1)).mono ?_
  rintro e wc ⟨lc, rfl, hrdc, hbwc⟩
  have G12 := Lib.hid (stage3 G11.out hbwc (.int .i64 n) (.int .i64 n) (.slice (some ⟨lc, 0, none⟩) (n * n) (n * n)) 34)
  have H12 := Lib.hid ((H11.out.below hbwc).box (.int .i64 n) (.int .i64 n) (.slice (some ⟨lc, 0, none⟩) (n * n) (n * n)) 34)
  have bx12 := box_mat wc (.int .i64 n) (.int .i64 n) (.slice (some ⟨lc, 0, none⟩) (n * n) (n * n)) 34
  have B12 := hbwc.trans (bx12.1.mono hbwc.size)
  have RU_12 := Lib.hid (RU_11.out.below B12)
  have RUN_12 := Lib.hid (RUN_11.out.below B12)
  have RV_12 := Lib.hid (hrdc.below bx12.1)
  clear hrdc
  clear u0 u1 u2 x0 x1 x2 hbwc B12 bx12
  obtain ⟨v0, v1, v2, u0, u1, u2, -, -, -, -, -, -, x0, x1, x2, -, -, -, -⟩ := H12.out
  dsimp only at v0 v1 v2 u0 u1 u2 x0 x1 x2
  go_wp2_with fail
  refine (sound_true n hn lc _).mono ?_
  rintro e wd ⟨rfl, hbwd⟩
  have G13 := Lib.hid (stage G12.out.1 G12.out.2 hbwd)
  have H13 := Lib.hid (H12.out.below hbwd)
  have B13 := hbwd
  have RU_13 := Lib.hid (RU_12.out.below B13)
  have RUN_13 := Lib.hid (RUN_12.out.below B13)
  have RV_13 := Lib.hid (RV_12.out.below B13)
  clear u0 u1 u2 v0 v1 v2 x0 x1 x2 hbwd B13
  obtain ⟨v0, v1, v2, u0, u1, u2, -, -, -, -, -, -, x0, x1, x2, -, -, -, -⟩ := H13.out
  dsimp only at v0 v1 v2 u0 u1 u2 x0 x1 x2
  go_wp2_with fail
  refine (least_yes _ (n * n) _ p _ RV_13.out (fun t ht => SmallB.small (HIVB.out t ht).1 (HIVB.out t ht).2)).mono ?_
  rintro e w' ⟨rfl, rfl⟩
  go_wp2_with fail
  refine (Mul_rd n n n hn hn hn _ _ _ _ 1048576 1 (by omega) _ ((HA.out.below G13.out.1).rdn HSA.out) (RV_13.out.smalls (fun t ht => ⟨(HIVB.out t ht).1, by have := (HIVB.out t ht).2; omega⟩))).mono ?_
  rintro e we ⟨le, rfl, hrde, hbwe⟩
  have G14 := Lib.hid (stage3 G13.out hbwe (.int .i64 n) (.int .i64 n) (.slice (some ⟨le, 0, none⟩) (n * n) (n * n)) 34)
  have H14 := Lib.hid ((H13.out.below hbwe).box (.int .i64 n) (.int .i64 n) (.slice (some ⟨le, 0, none⟩) (n * n) (n * n)) 34)
  have bx14 := box_mat we (.int .i64 n) (.int .i64 n) (.slice (some ⟨le, 0, none⟩) (n * n) (n * n)) 34
  have B14 := hbwe.trans (bx14.1.mono hbwe.size)
  have RU_14 := Lib.hid (RU_13.out.below B14)
  have RUN_14 := Lib.hid (RUN_13.out.below B14)
  have RV_14 := Lib.hid (RV_13.out.below B14)
  have RQ_14 := Lib.hid (hrde.below bx14.1)
  clear hrde
  clear u0 u1 u2 v0 v1 v2 x0 x1 x2 hbwe B14 bx14
  obtain ⟨q0', q1', q2', v0, v1, v2, u0, u1, u2, -, -, -, -, -, -, x0, x1, x2, -, -, -, -⟩ := H14.out
  dsimp only at q0' q1' q2' v0 v1 v2 u0 u1 u2 x0 x1 x2
  go_wp2_with fail
  refine (Mul_rd n n n hn hn hn _ _ _ _ 1 1048576 (by omega) _ (RV_14.out.smalls (fun t ht => ⟨(HIVB.out t ht).1, by have := (HIVB.out t ht).2; omega⟩)) ((HA.out.below G14.out.1).rdn HSA.out)).mono ?_
  rintro e wf ⟨lf, rfl, hrdf, hbwf⟩
  have G15 := Lib.hid (stage3 G14.out hbwf (.int .i64 n) (.int .i64 n) (.slice (some ⟨lf, 0, none⟩) (n * n) (n * n)) 34)
  have H15 := Lib.hid ((H14.out.below hbwf).box (.int .i64 n) (.int .i64 n) (.slice (some ⟨lf, 0, none⟩) (n * n) (n * n)) 34)
  have bx15 := box_mat wf (.int .i64 n) (.int .i64 n) (.slice (some ⟨lf, 0, none⟩) (n * n) (n * n)) 34
  have B15 := hbwf.trans (bx15.1.mono hbwf.size)
  have RU_15 := Lib.hid (RU_14.out.below B15)
  have RUN_15 := Lib.hid (RUN_14.out.below B15)
  have RV_15 := Lib.hid (RV_14.out.below B15)
  have RQ_15 := Lib.hid (RQ_14.out.below B15)
  have RR_15 := Lib.hid (hrdf.below bx15.1)
  clear hrdf
  clear q0' q1' q2' u0 u1 u2 v0 v1 v2 x0 x1 x2 hbwf B15 bx15
  obtain ⟨r0, r1, r2, q0', q1', q2', -, -, -, u0, u1, u2, -, -, -, -, -, -, -, -, -, -, -, -, -⟩ := H15.out
  dsimp only at r0 r1 r2 q0' q1' q2' u0 u1 u2
  go_wp2_with fail
  refine (Sub_mat n n hn hn _ _ _ _ _ 1 (by decide) _ RQ_15.out RUN_15.out).mono ?_
  rintro e wg ⟨lg, rfl, ⟨xc, hrdg, hxc⟩, hbwg⟩
  have G16 := Lib.hid (stage3 G15.out hbwg (.int .i64 n) (.int .i64 n) (.slice (some ⟨lg, 0, none⟩) (n * n) (n * n)) 34)
  have H16 := Lib.hid ((H15.out.below hbwg).box (.int .i64 n) (.int .i64 n) (.slice (some ⟨lg, 0, none⟩) (n * n) (n * n)) 34)
  have bx16 := box_mat wg (.int .i64 n) (.int .i64 n) (.slice (some ⟨lg, 0, none⟩) (n * n) (n * n)) 34
  have B16 := hbwg.trans (bx16.1.mono hbwg.size)
  have RU_16 := Lib.hid (RU_15.out.below B16)
  have RUN_16 := Lib.hid (RUN_15.out.below B16)
  have RV_16 := Lib.hid (RV_15.out.below B16)
  have RQ_16 := Lib.hid (RQ_15.out.below B16)
  have RR_16 := Lib.hid (RR_15.out.below B16)
  have RC_16 := Lib.hid (hrdg.below bx16.1)
  have HXC := Lib.hid hxc
  clear hrdg hxc
  clear q0' q1' q2' r0 r1 r2 u0 u1 u2 hbwg B16 bx16
  obtain ⟨c0, c1, c2, r0, r1, r2, -, -, -, -, -, -, u0, u1, u2, -, -, -, -, -, -, -, -, -, -, -, -, -⟩ := H16.out
  dsimp only at c0 c1 c2 r0 r1 r2 u0 u1 u2
  go_wp2_with fail
  refine (Sub_mat n n hn hn _ _ _ _ _ 1 (by decide) _ RR_16.out RUN_16.out).mono ?_
  rintro e wh ⟨lh, rfl, ⟨xd, hrdh, hxd⟩, hbwh⟩
  have G17 := Lib.hid (stage3 G16.out hbwh (.int .i64 n) (.int .i64 n) (.slice (some ⟨lh, 0, none⟩) (n * n) (n * n)) 34)
  have H17 := Lib.hid ((H16.out.below hbwh).box (.int .i64 n) (.int .i64 n) (.slice (some ⟨lh, 0, none⟩) (n * n) (n * n)) 34)
  have bx17 := box_mat wh (.int .i64 n) (.int .i64 n) (.slice (some ⟨lh, 0, none⟩) (n * n) (n * n)) 34
  have B17 := hbwh.trans (bx17.1.mono hbwh.size)
  have RU_17 := Lib.hid (RU_16.out.below B17)
  have RUN_17 := Lib.hid (RUN_16.out.below B17)
  have RV_17 := Lib.hid (RV_16.out.below B17)
  have RQ_17 := Lib.hid (RQ_16.out.below B17)
  have RR_17 := Lib.hid (RR_16.out.below B17)
  have RC_17 := Lib.hid (RC_16.out.below B17)
  have RD_17 := Lib.hid (hrdh.below bx17.1)
  have HXD := Lib.hid hxd
  clear hrdh hxd
  clear c0 c1 c2 r0 r1 r2 u0 u1 u2 hbwh B17 bx17
  obtain ⟨d0, d1, d2, c0, c1, c2, -, -, -, -, -, -, -, -, -, -, -, -, -, -, -, -, -, -, -, -, -, -, -, -, -⟩ := H17.out
  dsimp only at d0 d1 d2 c0 c1 c2
  go_wp2_with fail
  refine (zero_yes _ (n * n) xc p (by omega) (by omega) _ RC_17.out (fun t ht => ⟨by have := (HXC.out t ht).1; omega, by rw [(HXC.out t ht).2]; exact HIL.out t ht⟩)).mono ?_
  rintro e wi ⟨rfl, hbwi⟩
  have G18 := Lib.hid (stage G17.out.1 G17.out.2 hbwi)
  have H18 := Lib.hid (H17.out.below hbwi)
  have B18 := hbwi
  have RU_18 := Lib.hid (RU_17.out.below B18)
  have RUN_18 := Lib.hid (RUN_17.out.below B18)
  have RV_18 := Lib.hid (RV_17.out.below B18)
  have RQ_18 := Lib.hid (RQ_17.out.below B18)
  have RR_18 := Lib.hid (RR_17.out.below B18)
  have RC_18 := Lib.hid (RC_17.out.below B18)
  have RD_18 := Lib.hid (RD_17.out.below B18)
  clear c0 c1 c2 d0 d1 d2 hbwi B18
  obtain ⟨d0, d1, d2, -, -, -, -, -, -, -, -, -, -, -, -, -, -, -, -, -, -, -, -, -, -, -, -, -, -, -, -⟩ := H18.out
  dsimp only at d0 d1 d2
  go_wp2_with fail
  refine (zero_yes _ (n * n) xd p (by omega) (by omega) _ RD_18.out (fun t ht => ⟨by have := (HXD.out t ht).1; omega, by rw [(HXD.out t ht).2]; exact HIR.out t ht⟩)).mono ?_
  rintro e wj ⟨rfl, hbwj⟩
  have G19 := Lib.hid (stage G18.out.1 G18.out.2 hbwj)
  have H19 := Lib.hid (H18.out.below hbwj)
  have B19 := hbwj
  have RU_19 := Lib.hid (RU_18.out.below B19)
  have RUN_19 := Lib.hid (RUN_18.out.below B19)
  have RV_19 := Lib.hid (RV_18.out.below B19)
  have RQ_19 := Lib.hid (RQ_18.out.below B19)
  have RR_19 := Lib.hid (RR_18.out.below B19)
  have RC_19 := Lib.hid (RC_18.out.below B19)
  have RD_19 := Lib.hid (RD_18.out.below B19)
  clear d0 d1 d2 hbwj B19
  obtain ⟨d0, -, -, -, -, -, -, -, -, -, -, -, -, -, -, -, -, -, -, -, -, -, -, -, -, -, -, -, -, -, -⟩ := H19.out
  dsimp only at d0
  go_wp2_with fail
  go_ret
  exact ⟨rfl, G19.out.1⟩
end Go.Proofs.Ytdlpemmoobbgnaa

namespace Go.Proofs.Ytdlpemmoobbgnaa
open Go.RowKit

set_option maxHeartbeats 4000000 in
set_option maxRecDepth 100000 in
theorem Dets_law (ra ca ru cu : Int) (p : Int) (hp : 0 ≤ p) (sa su : Value) (na nu : Nat) (xa xu : Nat → Raw) (w : World) (ha : RdL w sa na xa) (hu : RdL w su nu xu) (hsa : ∀ i, i < na → (xa i).n ≤ 1048576) (hsu : ∀ i, i < nu → (xu i).n ≤ 1048576) :
    Calls Try.prog 4 #[.agg #[.int .i64 ra, .int .i64 ca, sa], .agg #[.int .i64 ru, .int .i64 cu, su], .int .u64 p] w fun e w' => e = .returned (.bool true) ∧ Below w.heap.size w w' := by
  by_cases hgood : soundB ra ca na = true ∧ soundB ru cu nu = true ∧ primeB p = true ∧ ra = ca ∧ ru = ra ∧ cu = ra
  · obtain ⟨g1, g2, g3, g4, g5, g6⟩ := hgood
    obtain ⟨R, C, hr, hc, hR, hC, hN, p0, p1, -, -⟩ := openE_ok (r := ra) (c := ca) (n := na) (p := p) (fit := true) (by unfold openE; rw [if_pos g1, if_pos rfl, if_pos g3])
    obtain rfl : R = C := by omega
    obtain rfl : ru = R := by omega
    obtain rfl : cu = R := by omega
    subst hr; subst hc
    have hN' : nu = R * R := by have := (soundB_yes g2).2.2; exact_mod_cast this
    subst hN; subst hN'
    by_cases hd : detM p R xa = 0
    · exact Dets_zero R p hR g3 sa su xa xu w ha hu hsa hsu hd
    · exact Dets_inv R p hR g3 sa su xa xu w ha hu hsa hsu hd
  · obtain ⟨a, cap, rfl, hn⟩ := ha.slice
    obtain ⟨b, cap', rfl, hn'⟩ := hu.slice
    have hsA := fun W => sound_any ra ca a na cap hn W
    have hsU := fun W => sound_any ru cu b nu cap' hn' W
    have hpr := fun W => prime_any p hp W
    obtain ⟨W0, hW0, hsix, hb0, hs0⟩ := pair_boxes w (.int .i64 ra) (.int .i64 ca) (.slice a na cap) (.int .i64 ru) (.int .i64 cu) (.slice b nu cap') 34
    have H6 := Lib.hid hsix
    have HB0 := Lib.hid hb0
    rw [hW0] at HB0 H6
    clear ha hu hsa hsu hb0 hs0 hsix hW0 W0
    have hbad : soundB ra ca na = false ∨ (soundB ra ca na = true ∧ soundB ru cu nu = false) ∨ (soundB ra ca na = true ∧ soundB ru cu nu = true ∧ primeB p = false) ∨ (soundB ra ca na = true ∧ soundB ru cu nu = true ∧ primeB p = true ∧ (ra != ca) = true) ∨
        (soundB ra ca na = true ∧ soundB ru cu nu = true ∧ primeB p = true ∧ (ra != ca) = false ∧ (ru != ra) = true) ∨ (soundB ra ca na = true ∧ soundB ru cu nu = true ∧ primeB p = true ∧ (ra != ca) = false ∧ (ru != ra) = false ∧ (cu != ra) = true) := by
      cases h1 : soundB ra ca na
      · exact Or.inl rfl
      cases h2 : soundB ru cu nu
      · exact Or.inr (Or.inl ⟨rfl, rfl⟩)
      cases h3 : primeB p
      · exact Or.inr (Or.inr (Or.inl ⟨rfl, rfl, rfl⟩))
      cases h4 : (ra != ca)
      · cases h5 : (ru != ra)
        · refine Or.inr (Or.inr (Or.inr (Or.inr (Or.inr ⟨rfl, rfl, rfl, rfl, rfl, ?_⟩))))
          rw [bne_iff_ne]
          intro h6
          exact hgood ⟨h1, h2, h3, by simpa using h4, by simpa using h5, h6⟩
        · exact Or.inr (Or.inr (Or.inr (Or.inr (Or.inl ⟨rfl, rfl, rfl, rfl, rfl⟩))))
      · exact Or.inr (Or.inr (Or.inr (Or.inl ⟨rfl, rfl, rfl, rfl⟩)))
    clear hgood
    generalize soundB ra ca na = sdA at *
    generalize soundB ru cu nu = sdU at *
    generalize primeB p = pr at *
    have HSDA := Lib.hid hsA
    have HSDU := Lib.hid hsU
    have HPR := Lib.hid hpr
    clear hsA hsU hpr
    rcases hbad with rfl | ⟨rfl, rfl⟩ | ⟨rfl, rfl, rfl⟩ | ⟨rfl, rfl, rfl, h4⟩ | ⟨rfl, rfl, rfl, h4, h5⟩ | ⟨rfl, rfl, rfl, h4, h5, h6⟩
    all_goals
      go_enter Try.func4, Try.ntmps4
      go_wp2_with (first
        | (go_at_call 11; refine (wakes_any _).mono ?_; rintro e w1 ⟨rfl, hb1⟩; have HB1 := Lib.hid (HB0.out.trans (hb1.mono HB0.out.size)); obtain ⟨x0, x1, x2, y0, y1, y2⟩ := six_stay hb1 H6.out; clear hb1; have HF := HB1)
        | (go_at_call_of 15 (Value.agg #[.int .i64 ra, .int .i64 ca, .slice a na cap]); refine (HSDA.out _).mono ?_; rintro e w2 ⟨rfl, hb2⟩; have HB2 := Lib.hid (HB1.out.trans (hb2.mono HB1.out.size)); replace x0 := cell_stays hb2 x0; replace x1 := cell_stays hb2 x1; replace x2 := cell_stays hb2 x2; replace y0 := cell_stays hb2 y0; replace y1 := cell_stays hb2 y1; replace y2 := cell_stays hb2 y2; clear hb2; replace HF := HB2)
        | (go_at_call 15; refine (HSDU.out _).mono ?_; rintro e w3 ⟨rfl, hb3⟩; have HB3 := Lib.hid (HB2.out.trans (hb3.mono HB2.out.size)); replace x0 := cell_stays hb3 x0; replace x1 := cell_stays hb3 x1; replace x2 := cell_stays hb3 x2; replace y0 := cell_stays hb3 y0; replace y1 := cell_stays hb3 y1; replace y2 := cell_stays hb3 y2; clear hb3; replace HF := HB3)
        | (go_at_call 14; refine (HPR.out _).mono ?_; rintro e w4 ⟨rfl, rfl⟩))
      go_ret
      exact ⟨rfl, HF.out⟩
end Go.Proofs.Ytdlpemmoobbgnaa

namespace Go.Proofs.Ytdlpemmoobbgnaa.modpDets
open Go.ChangeShapes Go.WideShapes Go.ChangeAt Go.RowKit

theorem own : ownKnob Try.prog.godebug = none := by kernel_rfl

set_option maxRecDepth 100000 in
theorem contract (H : Type) (enc : TypeId × Value → H) (W : World) (base : Nat) (args : Array Value) (ds gs : List (DataW H)) (before : List MemPlace)
    (hval : ∀ (j : Nat) t v, Try.f4.params[j]? = some t → args[j]? = some v → Value.okWide Try.prog W .any base t v)
    (hW : DataW.Whole enc Try.prog Try.f4.params.toList Rows.modpDetsSpec.vars false W args.toList ds gs before) (hk : Rows.uptoSmall H (ds ++ gs) = true) :
    Calls Try.prog 4 args W fun e W' => ∃ v, e = .returned v ∧ Rows.modpDetsSpec.post enc Try.prog Try.f4 false true false false W args v W' := by
  have hW' := hW
  have hlt : ∀ x ∈ before, x.block < W.heap.size := fun x hx => hW.lt x hx
  obtain ⟨p, q, hA0, hV, rfl, hfz, hnd⟩ := hW
  have hA : DataW.TrodAll enc Try.prog W 0 (fun _ => true) true Try.f4.params.toList args.toList ds p := hA0
  rw [Try.params4] at hA hval
  obtain ⟨v0, vs0, d0, ds0, p0, q0, hargs, rfl, rfl, h0, r0⟩ := trodAll_cons hA
  obtain ⟨v1, vs1, d1, ds1, p1, q1, rfl, rfl, rfl, h1, r1⟩ := trodAll_cons r0
  obtain ⟨v2, vs2, d2, ds2, p2, q2, rfl, rfl, rfl, h2, r2⟩ := trodAll_cons r1
  obtain ⟨rfl, rfl, rfl⟩ := trodAll_nil r2
  obtain rfl : args = #[v0, v1, v2] := by cases args; simp_all
  obtain ⟨rfl, rfl⟩ := trodVars_none hV
  have h0k := h0
  have h1k := h1
  obtain ⟨P, rfl, rfl, rfl, w2⟩ := open_int Try.underlying22 (hval 2 22 v2 rfl rfl) h2
  clear hA0
  simp only [List.append_nil] at hW' hk hlt
  have hbk : Rows.uptoBulkAll [d0, d1, DataW.lit (.int .u64 P)] ≤ 1048576 := of_decide_eq_true hk
  simp only [Rows.uptoBulkAll] at hbk
  obtain ⟨R, C, s, n, x, rfl, hr, hn, hx, -, -⟩ := open_mat (B := 1048576) (hval 0 34 v0 rfl rfl) h0 (by omega) (by omega)
  obtain ⟨R', C', s', n', x', rfl, hr', hn', hx', -, -⟩ := open_mat (B := 1048576) (hval 1 34 v1 rfl rfl) h1 (by omega) (by omega)
  refine (Dets_law R C R' C' P (bounds_u64 w2).1 s s' n n' x x' W hr hr' hx hx').mono fun e W' ⟨he, hg⟩ => ?_
  subst he
  refine ⟨_, rfl, post_of_below (pa := p0 ++ (p1 ++ ([] ++ []))) (pv := []) hW' (fun _ _ _ => (trodAll_cons_mk (shut_bool Try.underlying4 _) trodAll_mk0)) (fun sp hsp => (trodAll_cons_mk (WideElems.Trod_stays (P := Try.prog) (by kernel_rfl) (by kernel_rfl) (of_decide_eq_true (by kernel_rfl)) h0k (fun x hx => hg.same (hlt x (by simp [hx]))) (fun x hx => hsp x (by simp [hx]))) (trodAll_cons_mk (WideElems.Trod_stays (P := Try.prog) (by kernel_rfl) (by kernel_rfl) (of_decide_eq_true (by kernel_rfl)) h1k (fun x hx => hg.same (hlt x (by simp [hx]))) (fun x hx => hsp x (by simp [hx]))) (trodAll_cons_mk (shut_int Try.underlying22 w2) trodAll_mk0)))) (fun _ _ => rfl) (by simp)
    hg (ok_one (by kernel_rfl) rfl (okWide_bool_mk Try.underlying4 _))⟩

set_option maxRecDepth 100000 in
theorem lifted (os : Os) (started : os.Started) (H : Type) (enc : TypeId × Value → H) (F : Stop.Interp) :
    ReturnsInHanded {} Try.checked os 4 .any ((Rows.OpenSpec.upto Rows.modpDetsSpec).pre6 enc Try.prog Try.f4 Rows.modpDetsUptoRow.domain false) (((Rows.OpenSpec.upto Rows.modpDetsSpec).at F).post enc Try.prog Try.f4 false true false false) := by
  refine returnsInHanded_of_cond (C := Try.checked) (s := Rows.OpenSpec.upto Rows.modpDetsSpec) (k := Rows.uptoSmall) rfl own started (by kernel_rfl) Try.func4
    (OpenSpec.witness (enc := enc) (C := Try.checked) (s := Rows.OpenSpec.upto Rows.modpDetsSpec) (k := Rows.uptoSmall) rfl false ⟨#[], #[.agg #[.int .i64 0, .int .i64 0, .slice none 0 0], .agg #[.int .i64 0, .int .i64 0, .slice none 0 0], .int .u64 0], []⟩ 8 (by kernel_rfl) (by kernel_rfl) (by kernel_rfl)
      (x := ([.agg [.lit (.int .i64 0), .lit (.int .i64 0), .nil], .agg [.lit (.int .i64 0), .lit (.int .i64 0), .nil], .lit (.int .u64 0)], [], [])) (by kernel_rfl) rfl (by kernel_rfl)) ?_
  intro W base args ds gs before hval hW _ hk _
  exact contract H enc W base args ds gs before hval hW hk

/-- the statement -/
theorem proved : Rows.ModpDetsUptoSaid :=
  OpenClaim.holds_of_cond 4 Try.f4 rfl rfl rfl rfl rfl rfl rfl ⟨rfl, rfl, rfl, rfl, rfl⟩ rfl rfl rfl rfl rfl (by kernel_rfl) Try.func4 (by kernel_rfl)
    (of_decide_eq_true (by kernel_rfl)) (by unfold Func.isWrapper; first | (rw [if_pos (by decide +kernel)]; kernel_rfl) | (rw [if_neg (by decide +kernel)]; exact ⟨rfl, rfl⟩))
    (fun os started H enc _ F => lifted os started H enc F)
#print axioms proved
end Go.Proofs.Ytdlpemmoobbgnaa.modpDets
