import Derived.Test.YtejliecmdkmgiaaGJ
set_option linter.unusedVariables false
set_option linter.unusedSimpArgs false
namespace Go.Proofs.Ytejliecmdkmgiaa
open laZ
def pv (c : Nat → Int) (d : Nat) (t : Int) : Int := sm (d + 1) (fun k => c k * t ^ k)
theorem pv_zero (c : Nat → Int) (t : Int) : pv c 0 t = c 0 := by unfold pv; simp [sm]
theorem pv_front (c : Nat → Int) : ∀ (d : Nat) (t : Int), pv c (d + 1) t = c 0 + t * pv (fun k => c (k + 1)) d t
  | 0, t => by unfold pv; simp [sm, Int.pow_succ]; grind
  | d + 1, t => by
    have ih := pv_front c d t
    have h1 : pv c (d + 1 + 1) t = pv c (d + 1) t + c (d + 1 + 1) * t ^ (d + 1 + 1) := rfl
    have h2 : pv (fun k => c (k + 1)) (d + 1) t = pv (fun k => c (k + 1)) d t + c (d + 1 + 1) * t ^ (d + 1) := rfl
    rw [h1, h2, ih, Int.pow_succ t (d + 1)]
    grind
theorem pv_congr {c c' : Nat → Int} {d : Nat} (h : ∀ k, k ≤ d → c k = c' k) (t : Int) : pv c d t = pv c' d t := sm_congr fun k hk => by rw [h k (by omega)]
theorem pv_raise {c : Nat → Int} {d : Nat} (h : ∀ k, d < k → c k = 0) (t : Int) : ∀ e, pv c (d + e) t = pv c d t
  | 0 => rfl
  | e + 1 => by
    have h1 : pv c (d + e + 1) t = pv c (d + e) t + c (d + e + 1) * t ^ (d + e + 1) := rfl
    rw [← Nat.add_assoc, h1, pv_raise h t e, h _ (by omega)]
    grind
theorem pv_add (c c' : Nat → Int) (d : Nat) (t : Int) : pv (fun k => c k + c' k) d t = pv c d t + pv c' d t := by
  unfold pv; rw [← sm_add]; exact sm_congr fun k _ => by grind
theorem pv_smul (c : Nat → Int) (a : Int) (d : Nat) (t : Int) : pv (fun k => a * c k) d t = a * pv c d t := by
  unfold pv; rw [← sm_mul]; exact sm_congr fun k _ => by grind
theorem pv_sum (n : Nat) (c : Nat → Nat → Int) (d : Nat) (t : Int) : pv (fun k => sm n (fun i => c i k)) d t = sm n (fun i => pv (c i) d t) := by
  unfold pv
  rw [← sm_comm]
  exact sm_congr fun k _ => by rw [← sm_mul_r]
structure Pol (d : Nat) (f : Int → Int) (c : Nat → Int) : Prop where
  top : ∀ k, d < k → c k = 0
  val : ∀ t, f t = pv c d t
def IsPol (d : Nat) (f : Int → Int) : Prop := ∃ c, Pol d f c
theorem Pol.raise {d e : Nat} {f : Int → Int} {c : Nat → Int} (h : Pol d f c) (he : d ≤ e) : Pol e f c := by
  obtain ⟨k, rfl⟩ : ∃ k, e = d + k := ⟨e - d, by omega⟩
  exact ⟨fun i hi => h.top i (by omega), fun t => by rw [h.val, pv_raise h.top]⟩
theorem IsPol.raise {d e : Nat} {f : Int → Int} (h : IsPol d f) (he : d ≤ e) : IsPol e f := by obtain ⟨c, h⟩ := h; exact ⟨c, h.raise he⟩
theorem Pol.congr {d : Nat} {f g : Int → Int} {c : Nat → Int} (h : Pol d f c) (e : ∀ t, f t = g t) : Pol d g c := ⟨h.top, fun t => by rw [← e, h.val]⟩
theorem IsPol.congr {d : Nat} {f g : Int → Int} (h : IsPol d f) (e : ∀ t, f t = g t) : IsPol d g := by obtain ⟨c, h⟩ := h; exact ⟨c, h.congr e⟩
theorem Pol.add {d : Nat} {f g : Int → Int} {c c' : Nat → Int} (h : Pol d f c) (h' : Pol d g c') : Pol d (fun t => f t + g t) (fun k => c k + c' k) :=
  ⟨fun k hk => by rw [h.top k hk, h'.top k hk]; rfl, fun t => by rw [pv_add, h.val, h'.val]⟩
theorem Pol.smul {d : Nat} {f : Int → Int} {c : Nat → Int} (h : Pol d f c) (a : Int) : Pol d (fun t => a * f t) (fun k => a * c k) :=
  ⟨fun k hk => by rw [h.top k hk]; exact Int.mul_zero _, fun t => by rw [pv_smul, h.val]⟩
theorem Pol.const (a : Int) (d : Nat) : Pol d (fun _ => a) (fun k => if k = 0 then a else 0) := by
  have h0 : Pol 0 (fun _ => a) (fun k => if k = 0 then a else 0) := ⟨fun k hk => if_neg (by omega), fun t => by rw [pv_zero]; exact (if_pos rfl).symm⟩
  exact h0.raise (Nat.zero_le _)
theorem Pol.shift {d : Nat} {f : Int → Int} {c : Nat → Int} (h : Pol d f c) : Pol (d + 1) (fun t => t * f t) (fun k => if k = 0 then 0 else c (k - 1)) :=
  ⟨fun k hk => by show (if k = 0 then (0 : Int) else _) = 0; rw [if_neg (by omega)]; exact h.top _ (by omega), fun t => by
    rw [pv_front, h.val, pv_congr (c' := c) (fun k _ => by show (if k + 1 = 0 then (0 : Int) else _) = _; rw [if_neg (by omega)]; first | done | rfl)]
    show _ = (if (0 : Nat) = 0 then (0 : Int) else _) + _
    rw [if_pos rfl]; grind⟩
theorem IsPol.add {d : Nat} {f g : Int → Int} (h : IsPol d f) (h' : IsPol d g) : IsPol d (fun t => f t + g t) := by obtain ⟨c, h⟩ := h; obtain ⟨c', h'⟩ := h'; exact ⟨_, h.add h'⟩
theorem IsPol.smul {d : Nat} {f : Int → Int} (h : IsPol d f) (a : Int) : IsPol d (fun t => a * f t) := by obtain ⟨c, h⟩ := h; exact ⟨_, h.smul a⟩
theorem IsPol.const (a : Int) (d : Nat) : IsPol d (fun _ => a) := ⟨_, Pol.const a d⟩
theorem IsPol.mul {e : Nat} {g : Int → Int} (hg : IsPol e g) : ∀ {d : Nat} {f : Int → Int}, IsPol d f → IsPol (d + e) (fun t => f t * g t)
  | 0, f, ⟨c, h⟩ => by
    rw [Nat.zero_add]
    exact (hg.smul (c 0)).congr fun t => by rw [h.val, pv_zero]
  | d + 1, f, ⟨c, h⟩ => by
    have h1 : IsPol d (fun t => pv (fun k => c (k + 1)) d t) := ⟨fun k => c (k + 1), fun k hk => h.top _ (by omega), fun t => rfl⟩
    obtain ⟨c2, h2⟩ := IsPol.mul hg h1
    refine ((IsPol.add (d := d + 1 + e) ((hg.smul (c 0)).raise (by omega)) (IsPol.raise ⟨_, h2.shift⟩ (by omega)))).congr fun t => ?_
    rw [h.val, pv_front]
    grind
theorem IsPol.sum {d n : Nat} {f : Nat → Int → Int} (h : ∀ i, i < n → IsPol d (f i)) : IsPol d (fun t => sm n (fun i => f i t)) := by
  induction n with
  | zero => exact (IsPol.const 0 d).congr fun t => rfl
  | succ n ih => exact IsPol.add (ih fun i hi => h i (by omega)) (h n (by omega))
theorem IsPol.dt : ∀ {n : Nat} {M : Int → Nat → Nat → Int}, (∀ i j, i < n → j < n → IsPol 1 (fun t => M t i j)) → IsPol n (fun t => dt n (M t))
  | 0, _, _ => IsPol.const 1 0
  | n + 1, M, h => by
    show IsPol (n + 1) (fun t => sm (n + 1) (fun i => sg i * M t i 0 * laZ.dt n (mnr i (M t))))
    refine IsPol.sum fun i hi => ?_
    have h1 : IsPol n (fun t => laZ.dt n (mnr i (M t))) := IsPol.dt fun r c hr hc => h _ _ (sk_lt hr) (by omega)
    have h2 := IsPol.mul h1 ((h i 0 hi (by omega)).smul (sg i))
    rw [Nat.add_comm 1 n] at h2
    exact h2
theorem dvd_all_zero {a : Int} (h : ∀ t : Int, 1 ≤ t → ∃ x, a = t * x) : a = 0 := by
  obtain ⟨x, hx⟩ := h (a.natAbs + 1) (by omega)
  have h1 : a.natAbs = (a.natAbs + 1) * x.natAbs := by
    have := congrArg Int.natAbs hx
    rw [Int.natAbs_mul] at this
    have e : ((a.natAbs : Int) + 1).natAbs = a.natAbs + 1 := by omega
    rw [e] at this
    exact this
  by_cases h0 : x.natAbs = 0
  · have : x = 0 := by omega
    rw [this] at hx
    simpa using hx
  · have : a.natAbs + 1 ≤ (a.natAbs + 1) * x.natAbs := Nat.le_mul_of_pos_right _ (by omega)
    omega
theorem pv_vanish : ∀ {d : Nat} {c : Nat → Int}, (∀ t : Int, 1 ≤ t → pv c d t = 0) → ∀ k, k ≤ d → c k = 0
  | 0, c, h, k, hk => by
    obtain rfl : k = 0 := by omega
    have := h 1 (by omega)
    rwa [pv_zero] at this
  | d + 1, c, h, k, hk => by
    have h0 : c 0 = 0 := dvd_all_zero fun t ht => ⟨- pv (fun k => c (k + 1)) d t, by have := h t ht; rw [pv_front] at this; grind⟩
    have h1 := pv_vanish (d := d) (c := fun k => c (k + 1)) fun t ht => by
      have := h t ht
      rw [pv_front, h0, Int.zero_add] at this
      rcases Int.mul_eq_zero.1 this with h2 | h2
      · omega
      · exact h2
    rcases Nat.eq_zero_or_pos k with rfl | h2
    · exact h0
    · obtain ⟨j, rfl⟩ : ∃ j, k = j + 1 := ⟨k - 1, by omega⟩
      exact h1 j (by omega)
theorem Pol.unique {d e : Nat} {f g : Int → Int} {c c' : Nat → Int} (h : Pol d f c) (h' : Pol e g c') (he : ∀ t : Int, 1 ≤ t → f t = g t) (k : Nat) : c k = c' k := by
  have h1 := h.raise (Nat.le_add_right d e)
  have h2 := h'.raise (Nat.le_add_left e d)
  by_cases hk : k ≤ d + e
  · have := pv_vanish (d := d + e) (c := fun k => c k + (-1) * c' k) (fun t ht => by
      rw [pv_add, pv_smul, ← h1.val, ← h2.val, he t ht]; grind) k hk
    grind
  · rw [h1.top k (by omega), h2.top k (by omega)]
end Go.Proofs.Ytejliecmdkmgiaa
namespace Go.Proofs.Ytejliecmdkmgiaa
open laZ
theorem dt_mod {h : Int} : ∀ {n : Nat} {M N : Nat → Nat → Int}, (∀ i j, i < n → j < n → ∃ y, M i j = N i j + h * y) → ∃ y, dt n M = dt n N + h * y
  | 0, _, _, _ => ⟨0, by show (1 : Int) = 1 + h * 0; omega⟩
  | n + 1, M, N, hm => by
    have hs : ∀ (k : Nat) (f g : Nat → Int), (∀ i, i < k → ∃ y, f i = g i + h * y) → ∃ y, sm k f = sm k g + h * y := by
      intro k
      induction k with
      | zero => exact fun f g _ => ⟨0, by simp [sm]⟩
      | succ k ih =>
        intro f g hf
        obtain ⟨y, hy⟩ := ih f g fun i hi => hf i (by omega)
        obtain ⟨z, hz⟩ := hf k (by omega)
        exact ⟨y + z, by show sm k f + f k = sm k g + g k + _; rw [hy, hz]; grind⟩
    refine hs (n + 1) _ _ fun i hi => ?_
    obtain ⟨a, ha⟩ := hm i 0 hi (by omega)
    obtain ⟨b, hb⟩ := dt_mod (n := n) (M := mnr i M) (N := mnr i N) (fun r c hr hc => hm _ _ (sk_lt hr) (by omega))
    rw [ha, hb]
    exact ⟨sg i * (a * dt n (mnr i N) + N i 0 * b + h * a * b), by grind⟩
def lessR (h : Int) (D M : Nat → Nat → Int) (r : Nat) : Nat → Nat → Int := fun i j => if i < r then M i j - h * D i j else M i j
theorem lessR_succ (h : Int) (D M : Nat → Nat → Int) (r : Nat) : lessR h D M (r + 1) = rwr r (fun j => 1 * M r j + (-h) * D r j) (lessR h D M r) := by
  funext i j
  show (if i < r + 1 then M i j - h * D i j else M i j) = (if i = r then 1 * M r j + (-h) * D r j else (if i < r then M i j - h * D i j else M i j))
  by_cases e : i = r
  · subst e; rw [if_pos (by omega), if_pos rfl]; grind
  · rw [if_neg e]
    by_cases e2 : i < r
    · rw [if_pos e2, if_pos (by omega)]
    · rw [if_neg e2, if_neg (by omega)]
theorem jacobi {n : Nat} (h : Int) (D M : Nat → Nat → Int) : ∀ r, r ≤ n → ∃ x, dt n (lessR h D M r) = dt n M - h * sm r (fun i => dt n (rwr i (D i) M)) + h * h * x
  | 0, _ => ⟨0, by
    rw [show lessR h D M 0 = M from by funext i j; exact if_neg (Nat.not_lt_zero i)]
    simp [sm]⟩
  | r + 1, hr => by
    obtain ⟨x, hx⟩ := jacobi (n := n) h D M r (by omega)
    obtain ⟨y, hy⟩ : ∃ y, dt n (rwr r (D r) (lessR h D M r)) = dt n (rwr r (D r) M) + h * y := dt_mod fun i j _ _ => by
      unfold rwr lessR
      by_cases e : i = r
      · exact ⟨0, by rw [if_pos e, if_pos e]; omega⟩
      · rw [if_neg e, if_neg e]
        by_cases e2 : i < r
        · exact ⟨- D i j, by rw [if_pos e2]; grind⟩
        · exact ⟨0, by rw [if_neg e2]; omega⟩
    have h1 : rwr r (M r) (lessR h D M r) = lessR h D M r := by
      funext i j
      unfold rwr lessR
      by_cases e : i = r
      · subst e; rw [if_pos rfl, if_neg (by omega)]
      · rw [if_neg e]
    refine ⟨x - y, ?_⟩
    rw [lessR_succ, dt_lin _ _ _ _ _ (by omega), h1, hx, hy]
    show _ = dt n M - h * (sm r (fun i => dt n (rwr i (D i) M)) + dt n (rwr r (D r) M)) + _
    grind
def cof (n : Nat) (M : Nat → Nat → Int) (j k : Nat) : Int := (if (k + j) % 2 = 1 then -1 else 1) * dt n (fun r c => M (laQ.sk k r) (laQ.sk j c))
theorem cof_row {n : Nat} (M : Nat → Nat → Int) (v : Nat → Int) {k : Nat} (hk : k < n + 1) : dt (n + 1) (rwr k v M) = sm (n + 1) (fun j => v j * cof n M j k) := by
  rw [dtZ_row _ hk]
  refine sm_congr fun j _ => ?_
  rw [rwr_at]
  unfold cof
  rw [dt_congr (N := fun r c => M (laQ.sk k r) (laQ.sk j c)) (fun r c _ _ => rwr_ne _ _ _ (laQ.sk_ne k r))]
  grind
theorem cof_mul {n : Nat} (M : Nat → Nat → Int) {l k : Nat} (hl : l < n + 1) (hk : k < n + 1) : sm (n + 1) (fun j => M l j * cof n M j k) = if l = k then dt (n + 1) M else 0 := by
  rw [← cof_row M (M l) hk]
  by_cases e : l = k
  · subst e; rw [if_pos rfl, rwr_self]
  · rw [if_neg e]
    exact dt_alt' _ hl hk e fun j _ => by rw [rwr_ne _ _ _ e, rwr_at]
def oneL (A : Nat → Nat → Int) (t : Int) : Nat → Nat → Int := fun i j => idm i j - t * A i j
theorem oneL_pol (A : Nat → Nat → Int) (i j : Nat) : IsPol 1 (fun t => oneL A t i j) := by
  refine ⟨fun k => if k = 0 then idm i j else if k = 1 then - A i j else 0, fun k hk => ?_, fun t => ?_⟩
  · show (if k = 0 then _ else if k = 1 then _ else (0 : Int)) = 0
    rw [if_neg (by omega), if_neg (by omega)]
  · rw [show pv (fun k => if k = 0 then idm i j else if k = 1 then - A i j else 0) 1 t = idm i j + t * (- A i j) from by rw [pv_front, pv_zero]; rfl]
    show idm i j - t * A i j = _
    grind
theorem cof_pol (n : Nat) (A : Nat → Nat → Int) (j k : Nat) : IsPol n (fun t => cof n (oneL A t) j k) :=
  (IsPol.dt fun r c _ _ => oneL_pol A _ _).smul _
theorem pow_step (t h : Int) : ∀ k : Nat, ∃ y, (t + h) ^ (k + 1) = t ^ (k + 1) + h * (((k + 1 : Nat) : Int) * t ^ k) + h * h * y
  | 0 => ⟨0, by simp [Int.pow_succ]⟩
  | k + 1 => by
    obtain ⟨y, hy⟩ := pow_step t h k
    refine ⟨y * (t + h) + ((k + 1 : Nat) : Int) * t ^ k, ?_⟩
    rw [Int.pow_succ, hy, Int.pow_succ t (k + 1), Int.pow_succ t k]
    have e : ((k + 1 + 1 : Nat) : Int) = ((k + 1 : Nat) : Int) + 1 := by omega
    rw [e]
    grind
def der (c : Nat → Int) : Nat → Int := fun k => ((k + 1 : Nat) : Int) * c (k + 1)
theorem pv_step (c : Nat → Int) (t h : Int) : ∀ d : Nat, ∃ y, pv c (d + 1) (t + h) = pv c (d + 1) t + h * pv (der c) d t + h * h * y
  | 0 => ⟨0, by
    rw [pv_front, pv_front c 0 t, pv_zero, pv_zero, pv_zero]
    unfold der
    simp
    grind⟩
  | d + 1 => by
    obtain ⟨y, hy⟩ := pv_step c t h d
    obtain ⟨z, hz⟩ := pow_step t h (d + 1)
    refine ⟨y + c (d + 1 + 1) * z, ?_⟩
    show pv c (d + 1) (t + h) + c (d + 1 + 1) * (t + h) ^ (d + 1 + 1) = pv c (d + 1) t + c (d + 1 + 1) * t ^ (d + 1 + 1) + h * (pv (der c) d t + der c (d + 1) * t ^ (d + 1)) + _
    rw [hy, hz]
    unfold der
    grind
def flC (n : Nat) (A : Nat → Nat → Int) : Nat → Nat → Nat → Int
  | 0 => idm
  | k + 1 => fun i j => mm n A (flC n A k) i j + (- sm n (fun l => mm n A (flC n A k) l l)) / ((k + 1 : Nat) : Int) * idm i j
def flq (n : Nat) (A : Nat → Nat → Int) : Nat → Int
  | 0 => 1
  | k + 1 => (- sm n (fun l => mm n A (flC n A k) l l)) / ((k + 1 : Nat) : Int)
theorem flC_succ (n : Nat) (A : Nat → Nat → Int) (k i j : Nat) : flC n A (k + 1) i j = mm n A (flC n A k) i j + flq n A (k + 1) * idm i j := rfl
structure FlS (n : Nat) (A : Nat → Nat → Int) : Prop where
  det : Pol (n + 1) (fun t => dt (n + 1) (oneL A t)) (flq (n + 1) A)
  cf : ∀ i j, i < n + 1 → j < n + 1 → Pol n (fun t => cof n (oneL A t) i j) (fun k => flC (n + 1) A k i j)
  tr : ∀ k, ((k + 1 : Nat) : Int) * flq (n + 1) A (k + 1) = - sm (n + 1) (fun l => mm (n + 1) A (flC (n + 1) A k) l l)
theorem flS (n : Nat) (A : Nat → Nat → Int) : FlS n A := by
  obtain ⟨q, hq⟩ : IsPol (n + 1) (fun t => dt (n + 1) (oneL A t)) := IsPol.dt fun i j _ _ => oneL_pol A i j
  obtain ⟨C, hC⟩ : ∃ C : Nat → Nat → Nat → Int, ∀ i j, Pol n (fun t => cof n (oneL A t) i j) (fun k => C k i j) :=
    ⟨fun k i j => (cof_pol n A i j).choose k, fun i j => (cof_pol n A i j).choose_spec⟩
  -- the product's numbers
  have hprod : ∀ i j, i < n + 1 → j < n + 1 → ∀ k, (C k i j + (if k = 0 then 0 else - mm (n + 1) A (C (k - 1)) i j)) = q k * idm i j := by
    intro i j hi hj k
    have h1 : Pol (n + 1) (fun t => cof n (oneL A t) i j + t * sm (n + 1) (fun l => (- A i l) * cof n (oneL A t) l j)) (fun k => C k i j + (if k = 0 then 0 else sm (n + 1) (fun l => (- A i l) * C (k - 1) l j))) := by
      refine ((hC i j).raise (by omega)).add (Pol.shift (d := n) (f := fun t => sm (n + 1) (fun l => (- A i l) * cof n (oneL A t) l j)) (c := fun k => sm (n + 1) (fun l => (- A i l) * C k l j)) ⟨fun k hk => ?_, fun t => ?_⟩)
      · exact sm_zero fun l _ => by rw [(hC l j).top k hk]; exact Int.mul_zero _
      · rw [pv_sum]
        exact sm_congr fun l _ => by rw [pv_smul, ← (hC l j).val]
    have h2 : Pol (n + 1) (fun t => idm i j * dt (n + 1) (oneL A t)) (fun k => idm i j * q k) := hq.smul _
    have h3 := h1.unique h2 (fun t _ => by
      have e := cof_mul (oneL A t) hi hj
      have e2 : sm (n + 1) (fun l => oneL A t i l * cof n (oneL A t) l j) = cof n (oneL A t) i j + t * sm (n + 1) (fun l => (- A i l) * cof n (oneL A t) l j) := by
        rw [← sm_mul, ← mm_id (m := n + 1) (n := 0) (B := cof n (oneL A t)) i j hi, mm, ← sm_add]
        exact sm_congr fun l _ => by unfold oneL; grind
      rw [← e2, e]
      unfold idm
      by_cases c : i = j
      · rw [if_pos c, if_pos c.symm]; grind
      · rw [if_neg c, if_neg (fun e => c e.symm)]; grind) k
    have h4 : sm (n + 1) (fun l => (- A i l) * C (k - 1) l j) = - mm (n + 1) A (C (k - 1)) i j := by
      unfold mm
      rw [show - sm (n + 1) (fun l => A i l * C (k - 1) l j) = (-1) * sm (n + 1) (fun l => A i l * C (k - 1) l j) by grind, ← sm_mul]
      exact sm_congr fun l _ => by grind
    rw [h4] at h3
    rw [h3]; grind
  -- the derivative
  have htr : ∀ k, ((k + 1 : Nat) : Int) * q (k + 1) = - sm (n + 1) (fun l => mm (n + 1) A (C k) l l) := by
    have hS : Pol n (fun t => sm (n + 1) (fun i => sm (n + 1) (fun j => A i j * cof n (oneL A t) j i))) (fun k => sm (n + 1) (fun i => mm (n + 1) A (C k) i i)) := by
      refine ⟨fun k hk => sm_zero fun i _ => sm_zero fun l _ => by rw [(hC l i).top k hk]; exact Int.mul_zero _, fun t => ?_⟩
      rw [pv_sum]
      refine sm_congr fun i _ => ?_
      unfold mm
      rw [pv_sum]
      exact sm_congr fun l _ => by rw [pv_smul, ← (hC l i).val]
    have hd : Pol n (fun t => (-1) * pv (der q) n t) (fun k => (-1) * der q k) := Pol.smul ⟨fun k hk => by unfold der; rw [hq.top _ (by omega)]; exact Int.mul_zero _, fun t => rfl⟩ _
    have hu := hS.unique hd fun t _ => by
      have h0 : pv (der q) n t + sm (n + 1) (fun i => sm (n + 1) (fun j => A i j * cof n (oneL A t) j i)) = 0 := by
        refine dvd_all_zero fun h hh => ?_
        obtain ⟨x, hx⟩ := jacobi (n := n + 1) h A (oneL A t) (n + 1) (Nat.le_refl _)
        obtain ⟨y, hy⟩ := pv_step q t h n
        have e1 : dt (n + 1) (lessR h A (oneL A t) (n + 1)) = dt (n + 1) (oneL A (t + h)) := dt_congr fun i j hi _ => by
          unfold lessR oneL; rw [if_pos hi]; grind
        have e2 : sm (n + 1) (fun i => dt (n + 1) (rwr i (A i) (oneL A t))) = sm (n + 1) (fun i => sm (n + 1) (fun j => A i j * cof n (oneL A t) j i)) := sm_congr fun i hi => cof_row _ _ hi
        have e3 : dt (n + 1) (oneL A (t + h)) = pv q (n + 1) (t + h) := hq.val (t + h)
        have e4 : dt (n + 1) (oneL A t) = pv q (n + 1) t := hq.val t
        rw [e1, e2, e3, e4, hy] at hx
        generalize pv (der q) n t = a at *
        generalize sm (n + 1) (fun i => sm (n + 1) (fun j => A i j * cof n (oneL A t) j i)) = b at *
        refine ⟨x - y, ?_⟩
        have h5 : h * (a + b) = h * (h * (x - y)) := by grind
        exact Int.eq_of_mul_eq_mul_left (by omega) h5
      grind
    intro k
    have := hu k
    simp only [der] at this
    rw [this]; grind
  have h0 : q 0 = 1 := by
    have : dt (n + 1) (oneL A 0) = pv q (n + 1) 0 := hq.val 0
    rw [pv_front, Int.zero_mul, Int.add_zero] at this
    rw [← this, dt_congr (N := idm) (fun i j _ _ => by unfold oneL; grind), dt_one]
  -- both by steps
  have hall : ∀ k, (∀ i j, i < n + 1 → j < n + 1 → flC (n + 1) A k i j = C k i j) ∧ flq (n + 1) A k = q k := by
    intro k
    induction k with
    | zero =>
      refine ⟨fun i j hi hj => ?_, h0.symm⟩
      have := hprod i j hi hj 0
      rw [if_pos rfl, h0] at this
      show idm i j = _
      grind
    | succ k ih =>
      have hm : ∀ i j, i < n + 1 → j < n + 1 → mm (n + 1) A (flC (n + 1) A k) i j = mm (n + 1) A (C k) i j := fun i j _ hj => sm_congr fun l hl => by rw [ih.1 l j hl hj]
      have hq1 : flq (n + 1) A (k + 1) = q (k + 1) := by
        show (- sm (n + 1) (fun l => mm (n + 1) A (flC (n + 1) A k) l l)) / ((k + 1 : Nat) : Int) = _
        rw [sm_congr fun l hl => hm l l hl hl, ← htr k]
        exact Int.mul_ediv_cancel_left _ (by omega)
      refine ⟨fun i j hi hj => ?_, hq1⟩
      have := hprod i j hi hj (k + 1)
      rw [if_neg (by omega), Nat.add_sub_cancel] at this
      rw [flC_succ, hq1, hm i j hi hj]
      grind
  have hq' : (fun k => q k) = flq (n + 1) A := funext fun k => (hall k).2.symm
  refine ⟨hq' ▸ hq, fun i j hi hj => ?_, fun k => ?_⟩
  · have e : (fun k => flC (n + 1) A k i j) = fun k => C k i j := funext fun k => (hall k).1 i j hi hj
    rw [e]; exact hC i j
  · rw [(hall (k + 1)).2, htr k]
    congr 1
    exact sm_congr fun l hl => sm_congr fun m hm => by rw [(hall k).1 m l hm hl]
end Go.Proofs.Ytejliecmdkmgiaa
namespace Go.Proofs.Ytejliecmdkmgiaa
open laZ
theorem mm_idr {n : Nat} {B : Nat → Nat → Int} (i j : Nat) (hj : j < n) : mm n B idm i j = B i j := by
  show sm n _ = _
  rw [sm_one _ hj (fun k _ hne => by show _ * (if j = k then (1 : Int) else 0) = 0; rw [if_neg (fun e => hne e.symm)]; exact Int.mul_zero _)]
  show _ * (if j = j then (1 : Int) else 0) = _
  rw [if_pos rfl]; exact Int.mul_one _
theorem mm_assoc (m n : Nat) (A B C : Nat → Nat → Int) (i j : Nat) : mm n (mm m A B) C i j = mm m A (mm n B C) i j := by
  unfold mm
  rw [sm_congr (n := n) (g := fun k => sm m (fun l => A i l * B l k * C k j)) (fun k _ => (sm_mul_r _ _ _).symm), sm_comm]
  refine sm_congr fun l _ => ?_
  rw [← sm_mul]
  exact sm_congr fun k _ => by grind
theorem mm_congr {n : Nat} {A A' B B' : Nat → Nat → Int} {i j : Nat} (h : ∀ k, k < n → A i k = A' i k) (h' : ∀ k, k < n → B k j = B' k j) : mm n A B i j = mm n A' B' i j := sm_congr fun k hk => by rw [h k hk, h' k hk]
theorem mm_add_l {n : Nat} (A B C : Nat → Nat → Int) (i j : Nat) : mm n (fun i j => A i j + B i j) C i j = mm n A C i j + mm n B C i j := by
  unfold mm; rw [← sm_add]; exact sm_congr fun k _ => by grind
theorem mm_smul_l {n : Nat} (a : Int) (A B : Nat → Nat → Int) (i j : Nat) : mm n (fun i j => a * A i j) B i j = a * mm n A B i j := by
  unfold mm; rw [← sm_mul]; exact sm_congr fun k _ => by grind
theorem mm_zero_l {n : Nat} {A B : Nat → Nat → Int} {i j : Nat} (h : ∀ k, k < n → A i k = 0) : mm n A B i j = 0 := sm_zero fun k hk => by rw [h k hk]; exact Int.zero_mul _
def pw (n : Nat) (A : Nat → Nat → Int) : Nat → Nat → Nat → Int
  | 0 => idm
  | k + 1 => mm n (pw n A k) A
theorem pw_succ' (n : Nat) (A : Nat → Nat → Int) : ∀ (k i j : Nat), i < n → j < n → pw n A (k + 1) i j = mm n A (pw n A k) i j
  | 0, i, j, hi, hj => by
    show mm n idm A i j = mm n A idm i j
    rw [mm_id (n := 0) i j hi, mm_idr i j hj]
  | k + 1, i, j, hi, hj => by
    show mm n (pw n A (k + 1)) A i j = mm n A (mm n (pw n A k) A) i j
    rw [← mm_assoc]
    exact mm_congr (fun l hl => pw_succ' n A k i l hi hl) (fun _ _ => rfl)
theorem flC_pw (n : Nat) (A : Nat → Nat → Int) : ∀ (k i j : Nat), i < n → j < n → flC n A k i j = sm (k + 1) (fun l => flq n A l * pw n A (k - l) i j)
  | 0, i, j, _, _ => by
    show idm i j = 0 + 1 * idm i j
    grind
  | k + 1, i, j, hi, hj => by
    show mm n A (flC n A k) i j + flq n A (k + 1) * idm i j = sm (k + 1) (fun l => flq n A l * pw n A (k + 1 - l) i j) + flq n A (k + 1) * pw n A (k + 1 - (k + 1)) i j
    rw [Nat.sub_self]
    congr 1
    rw [mm_congr (A' := A) (B' := fun i j => sm (k + 1) (fun l => flq n A l * pw n A (k - l) i j)) (fun _ _ => rfl) (fun l hl => flC_pw n A k l j hl hj)]
    unfold mm
    rw [sm_congr (n := n) (g := fun m => sm (k + 1) (fun l => flq n A l * (A i m * pw n A (k - l) m j))) (fun m _ => by rw [← sm_mul]; exact sm_congr fun l _ => by grind), sm_comm]
    refine sm_congr fun l hl => ?_
    rw [sm_mul]
    congr 1
    rw [show k + 1 - l = k - l + 1 by omega, pw_succ' n A (k - l) i j hi hj]
    rfl
theorem flC_zero {n k : Nat} (A : Nat → Nat → Int) (hk : n ≤ k) {i j : Nat} (hi : i < n) (hj : j < n) : flC n A k i j = 0 := by
  cases n with
  | zero => omega
  | succ n => exact ((flS n A).cf i j hi hj).top k hk
theorem sm_rev (f : Nat → Int) : ∀ n, sm (n + 1) f = sm (n + 1) (fun k => f (n - k))
  | 0 => rfl
  | n + 1 => by
    have h1 := sm_split 1 (n + 1) (fun k => f (n + 1 - k))
    rw [show (1 : Nat) + (n + 1) = n + 1 + 1 by omega] at h1
    rw [h1, show sm 1 (fun k => f (n + 1 - k)) = f (n + 1) by simp [sm]]
    show sm (n + 1) f + f (n + 1) = _
    rw [sm_rev f n, sm_congr (g := fun i => f (n + 1 - (1 + i))) (fun i hi => by congr 1; omega)]
    omega
end Go.Proofs.Ytejliecmdkmgiaa
namespace Go.Proofs.Ytejliecmdkmgiaa
open laZ
theorem sm_last (n : Nat) (f : Nat → Int) : sm (n + 1) f = sm n f + f n := rfl
theorem sm_first (n : Nat) (f : Nat → Int) : sm (n + 1) f = f 0 + sm n (fun i => f (i + 1)) := by
  have h := sm_split 1 n f
  rw [Nat.add_comm 1 n] at h
  rw [h, show sm 1 f = f 0 by simp [sm], sm_congr (g := fun i => f (i + 1)) (fun i _ => by rw [Nat.add_comm])]
def pmS (n : Nat) (A : Nat → Nat → Int) (c : Nat → Int) (s : Nat) : Nat → Nat → Int := fun i j => sm s (fun k => c k * pw n A k i j)
theorem pmS_congr {n s : Nat} {A : Nat → Nat → Int} {c c' : Nat → Int} (h : ∀ k, k < s → c k = c' k) (i j : Nat) : pmS n A c s i j = pmS n A c' s i j := sm_congr fun k hk => by rw [h k hk]
theorem pmS_raise {n : Nat} {A : Nat → Nat → Int} {c : Nat → Int} {s : Nat} (h : ∀ k, s ≤ k → c k = 0) (i j : Nat) : ∀ e, pmS n A c (s + e) i j = pmS n A c s i j
  | 0 => rfl
  | e + 1 => by
    show pmS n A c (s + e) i j + c (s + e) * _ = _
    rw [pmS_raise h i j e, h _ (by omega)]; grind
theorem pmS_to {n : Nat} {A : Nat → Nat → Int} {c : Nat → Int} {s s' : Nat} (h : ∀ k, s ≤ k → c k = 0) (hs : s ≤ s') (i j : Nat) : pmS n A c s' i j = pmS n A c s i j := by
  obtain ⟨e, rfl⟩ : ∃ e, s' = s + e := ⟨s' - s, by omega⟩
  exact pmS_raise h i j e
theorem pmS_add (n : Nat) (A : Nat → Nat → Int) (c c' : Nat → Int) (s i j : Nat) : pmS n A (fun k => c k + c' k) s i j = pmS n A c s i j + pmS n A c' s i j := by
  unfold pmS; rw [← sm_add]; exact sm_congr fun k _ => by grind
theorem pmS_smul (n : Nat) (A : Nat → Nat → Int) (a : Int) (c : Nat → Int) (s i j : Nat) : pmS n A (fun k => a * c k) s i j = a * pmS n A c s i j := by
  unfold pmS; rw [← sm_mul]; exact sm_congr fun k _ => by grind
theorem pmS_first (n : Nat) (A : Nat → Nat → Int) (c : Nat → Int) (s i j : Nat) (hi : i < n) (hj : j < n) : pmS n A c (s + 1) i j = c 0 * idm i j + mm n A (pmS n A (fun k => c (k + 1)) s) i j := by
  unfold pmS
  rw [sm_first]
  congr 1
  unfold mm
  rw [sm_congr (n := n) (g := fun l => sm s (fun k => c (k + 1) * (A i l * pw n A k l j))) (fun l _ => by rw [← sm_mul]; exact sm_congr fun k _ => by grind), sm_comm]
  refine sm_congr fun k _ => ?_
  rw [sm_mul, pw_succ' n A k i j hi hj]
  rfl
def cv (c c' : Nat → Int) (k : Nat) : Int := sm (k + 1) (fun i => c i * c' (k - i))
theorem cv_first (c c' : Nat → Int) (k : Nat) : cv c c' k = c 0 * c' k + (if k = 0 then 0 else cv (fun i => c (i + 1)) c' (k - 1)) := by
  unfold cv
  rw [sm_first, Nat.sub_zero]
  congr 1
  cases k with
  | zero => rfl
  | succ k =>
    rw [if_neg (by omega), Nat.add_sub_cancel]
    exact sm_congr fun i hi => by rw [show k + 1 - (i + 1) = k - i by omega]
theorem cv_zero_l {c c' : Nat → Int} (h : ∀ k, c k = 0) (k : Nat) : cv c c' k = 0 := sm_zero fun i _ => by rw [h]; exact Int.zero_mul _
theorem pmS_mul {n : Nat} (A : Nat → Nat → Int) {c' : Nat → Int} {b : Nat} (h' : ∀ k, b ≤ k → c' k = 0) : ∀ (a : Nat) (c : Nat → Int), (∀ k, a ≤ k → c k = 0) → ∀ i j, i < n → j < n → pmS n A (cv c c') (a + b) i j = mm n (pmS n A c a) (pmS n A c' b) i j
  | 0, c, h, i, j, hi, hj => by
    rw [mm_zero_l (fun k _ => rfl)]
    exact sm_zero fun k _ => by rw [cv_zero_l (fun k => h k (Nat.zero_le _))]; exact Int.zero_mul _
  | a + 1, c, h, i, j, hi, hj => by
    have ih := pmS_mul (n := n) A h' a (fun k => c (k + 1)) (fun k hk => h _ (by omega))
    rw [mm_congr (A' := fun i j => c 0 * idm i j + mm n A (pmS n A (fun k => c (k + 1)) a) i j) (B' := pmS n A c' b) (fun l hl => pmS_first n A c a i l hi hl) (fun _ _ => rfl), mm_add_l, mm_smul_l, mm_id (n := 0) i j hi, mm_assoc, show a + 1 + b = (a + b) + 1 by omega]
    rw [show pmS n A (cv c c') (a + b + 1) i j = pmS n A (fun k => c 0 * c' k) (a + b + 1) i j + pmS n A (fun k => if k = 0 then 0 else cv (fun i => c (i + 1)) c' (k - 1)) (a + b + 1) i j from by
      rw [← pmS_add]; exact pmS_congr (fun k _ => cv_first c c' k) i j, pmS_smul, pmS_to h' (by omega) i j, pmS_first n A (fun k => if k = 0 then 0 else cv (fun i => c (i + 1)) c' (k - 1)) (a + b) i j hi hj]
    congr 1
    show 0 * _ + _ = _
    rw [Int.zero_mul, Int.zero_add]
    refine mm_congr (fun _ _ => rfl) (fun l hl => ?_)
    rw [← ih l j hl hj]
    exact pmS_congr (fun k _ => by show (if k + 1 = 0 then (0 : Int) else _) = _; rw [if_neg (by omega), Nat.add_sub_cancel]) l j
def Kil (n : Nat) (A : Nat → Nat → Int) (s : Nat) (c : Nat → Int) : Prop := ∀ i j, i < n → j < n → pmS n A c s i j = 0
def Ind (n : Nat) (A : Nat → Nat → Int) (k : Nat) : Prop := ∀ c : Nat → Int, Kil n A k c → ∀ i, i < k → c i = 0
theorem Ind.le {n k s : Nat} {A : Nat → Nat → Int} (h : Ind n A k) (hs : s ≤ k) : Ind n A s := fun c hc i hi => by
  have := h (fun j => if j < s then c j else 0) (fun a b ha hb => by
    rw [pmS_to (s := s) (fun k hk => if_neg (by omega)) hs, pmS_congr (c' := c) (fun k hk => if_pos hk)]
    exact hc a b ha hb) i (by omega)
  rwa [if_pos hi] at this
theorem ch_kil (n : Nat) (A : Nat → Nat → Int) : Kil n A (n + 1) (fun k => flq n A (n - k)) := fun i j hi hj => by
  have h := flC_pw n A n i j hi hj
  rw [flC_zero A (Nat.le_refl _) hi hj] at h
  unfold pmS
  rw [sm_rev]
  rw [h]
  exact sm_congr fun k hk => by
    show flq n A (n - (n - k)) * pw n A (n - k) i j = _
    rw [show n - (n - k) = k by omega]
theorem Ind.le_rows {n k : Nat} {A : Nat → Nat → Int} (h : Ind n A k) : k ≤ n := by
  refine Decidable.by_contra fun hk => ?_
  have := h.le (show n + 1 ≤ k by omega) _ (ch_kil n A) n (by omega)
  simp only [Nat.sub_self] at this
  exact absurd this (by show (1 : Int) ≠ 0; decide)
def Prm (L : Nat) (v : Nat → Int) : Prop := ∀ d : Int, (∀ c, c < L → d ∣ v c) → d ∣ 1
theorem dvd_gcdZ {a b x y : Int} (h : a ∣ b * x) (h' : a ∣ b * y) : a ∣ b * (Int.gcd x y : Int) := by
  have h1 := Int.natAbs_dvd_natAbs.2 h
  have h2 := Int.natAbs_dvd_natAbs.2 h'
  rw [Int.natAbs_mul] at h1 h2
  have h3 := Nat.dvd_gcd h1 h2
  rw [Nat.gcd_mul_left] at h3
  refine Int.natAbs_dvd_natAbs.1 ?_
  rw [Int.natAbs_mul]
  exact h3
def gcdS : Nat → (Nat → Int) → Nat
  | 0, _ => 0
  | n + 1, v => Int.gcd (gcdS n v : Int) (v n)
theorem gcdS_dvd : ∀ {n : Nat} {v : Nat → Int} {c : Nat}, c < n → (gcdS n v : Int) ∣ v c
  | 0, _, _, h => by omega
  | n + 1, v, c, h => by
    by_cases e : c = n
    · subst e; exact Int.gcd_dvd_right _ _
    · exact Int.dvd_trans (Int.gcd_dvd_left _ _) (gcdS_dvd (by omega))
theorem dvd_gcdS {a b : Int} : ∀ {n : Nat} {v : Nat → Int}, (∀ c, c < n → a ∣ b * v c) → a ∣ b * (gcdS n v : Int)
  | 0, _, _ => ⟨0, by show b * ((0 : Nat) : Int) = _; simp⟩
  | n + 1, v, h => dvd_gcdZ (dvd_gcdS fun c hc => h c (by omega)) (h n (by omega))
theorem Prm.gcd {L : Nat} {v : Nat → Int} (h : Prm L v) : gcdS L v = 1 := by
  have := h (gcdS L v) (fun c hc => gcdS_dvd hc)
  have := Int.natAbs_dvd_natAbs.2 this
  simpa using this
theorem Prm.dvd {L : Nat} {v : Nat → Int} (h : Prm L v) {a b : Int} (hd : ∀ c, c < L → a ∣ b * v c) : a ∣ b := by
  have := dvd_gcdS hd
  rw [h.gcd] at this
  simpa using this
theorem prm_strip {L : Nat} {v : Nat → Int} (h : gcdS L v ≠ 0) : Prm L (fun c => v c / (gcdS L v : Int)) := fun d hd => by
  have h0 : (gcdS L v : Int) ≠ 0 := by omega
  have h1 : ∀ c, c < L → d * gcdS L v ∣ 1 * v c := fun c hc => by
    obtain ⟨x, hx⟩ := hd c hc
    replace hx : v c / (gcdS L v : Int) = d * x := hx
    obtain ⟨y, hy⟩ := gcdS_dvd (v := v) hc
    refine ⟨x, ?_⟩
    rw [hy, Int.mul_ediv_cancel_left _ h0] at hx
    rw [hy, hx]; grind
  have h2 := dvd_gcdS h1
  obtain ⟨x, hx⟩ := h2
  refine ⟨x, ?_⟩
  have : (gcdS L v : Int) * 1 = gcdS L v * (d * x) := by grind
  exact Int.eq_of_mul_eq_mul_left h0 this
theorem gcdS_zero {L : Nat} {v : Nat → Int} (h : gcdS L v = 0) : ∀ c, c < L → v c = 0 := fun c hc => by
  obtain ⟨x, hx⟩ := gcdS_dvd (v := v) hc
  rw [h] at hx
  simpa using hx
theorem prime_ex {d : Nat} (h : 1 < d) : ∃ p : Nat, 1 < p ∧ p ∣ d ∧ ∀ x y : Int, (p : Int) ∣ x * y → (p : Int) ∣ x ∨ (p : Int) ∣ y := by
  have hex : ∃ p : Nat, 1 < p ∧ p ∣ d := ⟨d, h, Nat.dvd_refl d⟩
  obtain ⟨p, ⟨h1, h2⟩, hmin⟩ : ∃ p, (1 < p ∧ p ∣ d) ∧ ∀ q, q < p → ¬ (1 < q ∧ q ∣ d) := by
    have : ∀ k, ∀ p, p ≤ k → (1 < p ∧ p ∣ d) → ∃ p, (1 < p ∧ p ∣ d) ∧ ∀ q, q < p → ¬ (1 < q ∧ q ∣ d) := by
      intro k
      induction k with
      | zero => intro p hp hq; omega
      | succ k ih =>
        intro p hp hq
        by_cases hm : ∃ q, q < p ∧ (1 < q ∧ q ∣ d)
        · obtain ⟨q, hq1, hq2⟩ := hm
          exact ih q (by omega) hq2
        · exact ⟨p, hq, fun q hq1 hq2 => hm ⟨q, hq1, hq2⟩⟩
    obtain ⟨p, hp⟩ := hex
    exact this p p (Nat.le_refl _) hp
  refine ⟨p, h1, h2, fun x y hxy => ?_⟩
  have h3 := Int.natAbs_dvd_natAbs.2 hxy
  rw [Int.natAbs_mul, Int.natAbs_natCast] at h3
  have hg1 : Nat.gcd p x.natAbs ∣ p := Nat.gcd_dvd_left _ _
  have hgp : Nat.gcd p x.natAbs ≤ p := Nat.le_of_dvd (by omega) hg1
  by_cases he : Nat.gcd p x.natAbs = p
  · left
    have : p ∣ x.natAbs := by rw [← he]; exact Nat.gcd_dvd_right _ _
    exact Int.natAbs_dvd_natAbs.1 (by rw [Int.natAbs_natCast]; exact this)
  · right
    have h0 : 0 < Nat.gcd p x.natAbs := Nat.gcd_pos_of_pos_left _ (by omega)
    have hc : Nat.gcd p x.natAbs = 1 := by
      refine Decidable.by_contra fun hne => hmin _ (by omega) ⟨by omega, Nat.dvd_trans hg1 h2⟩
    have : p ∣ y.natAbs := Nat.Coprime.dvd_of_dvd_mul_left hc h3
    exact Int.natAbs_dvd_natAbs.1 (by rw [Int.natAbs_natCast]; exact this)
theorem prime_cv {p : Int} (hp : ∀ x y : Int, p ∣ x * y → p ∣ x ∨ p ∣ y) {c c' : Nat → Int} (h : ∀ k, p ∣ cv c c' k) : (∀ k, p ∣ c k) ∨ ∀ k, p ∣ c' k := by
  refine Classical.byContradiction fun hn => ?_
  have hn1 : ¬ ∀ k, p ∣ c k := fun e => hn (Or.inl e)
  have hn2 : ¬ ∀ k, p ∣ c' k := fun e => hn (Or.inr e)
  have hfirst : ∀ f : Nat → Int, (¬ ∀ k, p ∣ f k) → ∃ k, ¬ p ∣ f k ∧ ∀ j, j < k → p ∣ f j := fun f hf => by
    have : ∀ m, ∀ k, k ≤ m → ¬ p ∣ f k → ∃ k, ¬ p ∣ f k ∧ ∀ j, j < k → p ∣ f j := by
      intro m
      induction m with
      | zero => intro k hk hq; exact ⟨k, hq, fun j hj => by omega⟩
      | succ m ih =>
        intro k hk hq
        by_cases he : ∃ j, j < k ∧ ¬ p ∣ f j
        · obtain ⟨j, hj, hj2⟩ := he
          exact ih j (by omega) hj2
        · exact ⟨k, hq, fun j hj => Classical.byContradiction fun h' => he ⟨j, hj, h'⟩⟩
    obtain ⟨k, hk⟩ := Classical.not_forall.1 hf
    exact this k k (Nat.le_refl _) hk
  obtain ⟨a, ha, ha'⟩ := hfirst c hn1
  obtain ⟨b, hb, hb'⟩ := hfirst c' hn2
  have h1 := h (a + b)
  have h2 : cv c c' (a + b) = c a * c' b + sm (a + b + 1) (fun i => if i = a then 0 else c i * c' (a + b - i)) := by
    unfold cv
    rw [← sm_one (n := a + b + 1) (k := a) (fun i => if i = a then c a * c' b else 0) (by omega) (fun i _ hi => if_neg hi) |>.trans (if_pos rfl), ← sm_add]
    refine sm_congr fun i _ => ?_
    by_cases e : i = a
    · subst e; rw [if_pos rfl, if_pos rfl, show i + b - i = b by omega]; omega
    · rw [if_neg e, if_neg e]; omega
  have h3 : p ∣ sm (a + b + 1) (fun i => if i = a then 0 else c i * c' (a + b - i)) := by
    have : ∀ (m : Nat) (f : Nat → Int), (∀ i, i < m → p ∣ f i) → p ∣ sm m f := by
      intro m
      induction m with
      | zero => exact fun f _ => ⟨0, by simp [sm]⟩
      | succ m ih => exact fun f hf => Int.dvd_add (ih f fun i hi => hf i (by omega)) (hf m (by omega))
    refine this _ _ fun i hi => ?_
    by_cases e : i = a
    · rw [if_pos e]; exact ⟨0, by simp⟩
    · rw [if_neg e]
      by_cases e2 : i < a
      · exact Int.dvd_trans (ha' i e2) (Int.dvd_mul_right _ _)
      · exact Int.dvd_trans (hb' _ (by omega)) (Int.dvd_mul_left _ _)
  rw [h2] at h1
  rcases hp _ _ ((Int.dvd_add_left h3).1 h1) with h4 | h4
  · exact ha h4
  · exact hb h4
end Go.Proofs.Ytejliecmdkmgiaa
namespace Go.Proofs.Ytejliecmdkmgiaa
open laZ
theorem dt_sumrow {n r : Nat} (M : Nat → Nat → Int) (hr : r < n) : ∀ (m : Nat) (b : Nat → Int) (F : Nat → Nat → Int), dt n (rwr r (fun c => sm m (fun j => b j * F j c)) M) = sm m (fun j => b j * dt n (rwr r (F j) M))
  | 0, b, F => by
    show dt n (rwr r (fun c => 0) M) = 0
    exact dt_zero _ hr fun j _ => rwr_at _ _ _ _
  | m + 1, b, F => by
    show dt n (rwr r (fun c => sm m (fun j => b j * F j c) + b m * F m c) M) = sm m _ + _
    rw [show (fun c => sm m (fun j => b j * F j c) + b m * F m c) = fun c => 1 * sm m (fun j => b j * F j c) + b m * F m c from funext fun c => by grind, dt_lin _ _ _ _ _ hr, dt_sumrow M hr m b F]
    grind
theorem elim_id (t : Nat) (W : Nat → Nat → Int) (u v : Nat → Int) (h : Nat → Nat) (α : Int) (β : Nat → Int) (c : Nat) (hv : ∀ b, b < t → v (h b) = α * u (h b) + sm t (fun j => β j * W j (h b))) (hc : v c = α * u c + sm t (fun j => β j * W j c)) (hz : ∀ b, b < t → v (h b) = 0) :
    α * dt (t + 1) (fun a b => (if a < t then W a else u) (if b < t then h b else c)) = v c * dt t (fun a b => W a (h b)) := by
  obtain ⟨q, hq⟩ : ∃ q : Nat → Nat, q = fun b => if b < t then h b else c := ⟨_, rfl⟩
  obtain ⟨M, hM⟩ : ∃ M : Nat → Nat → Int, M = fun a b => (if a < t then W a else u) (q b) := ⟨_, rfl⟩
  have hMe : (fun a b => (if a < t then W a else u) (if b < t then h b else c)) = M := by rw [hM, hq]
  rw [hMe]
  have hvq : ∀ b, b < t + 1 → v (q b) = α * u (q b) + sm t (fun j => β j * W j (q b)) := fun b hb => by
    rw [hq]
    by_cases e : b < t
    · simp only [if_pos e]; exact hv b e
    · simp only [if_neg e]; exact hc
  -- the last row replaced by v
  have h1 : dt (t + 1) (rwr t (fun b => v (q b)) M) = α * dt (t + 1) M := by
    rw [dt_congr (N := rwr t (fun b => α * u (q b) + 1 * sm t (fun j => β j * W j (q b))) M) (fun i j _ hj => by
      unfold rwr
      by_cases e : i = t
      · rw [if_pos e, if_pos e]
        show v (q j) = α * u (q j) + 1 * sm t fun j_1 => β j_1 * W j_1 (q j)
        rw [hvq j hj, Int.one_mul]
      · rw [if_neg e, if_neg e]), dt_lin _ _ _ _ _ (by omega), dt_sumrow M (by omega) t β (fun j b => W j (q b))]
    rw [sm_zero (fun j hj => ?_)]
    · rw [show rwr t (fun b => u (q b)) M = M from ?_]
      · grind
      · funext i b
        unfold rwr
        by_cases e : i = t
        · rw [if_pos e, hM, e]; show _ = (if t < t then W t else u) (q b); rw [if_neg (by omega)]
        · rw [if_neg e]
    · rw [dt_alt' (i := j) (k := t) _ (by omega) (by omega) (by omega) (fun b _ => ?_)]
      · exact Int.mul_zero _
      · rw [rwr_ne _ _ _ (by omega), rwr_at, hM]
        show (if j < t then W j else u) (q b) = _
        rw [if_pos hj]
  rw [← h1, dtZ_row _ (show t < t + 1 by omega), sm_one _ (show t < t + 1 by omega) (fun b hb hne => ?_)]
  · rw [rwr_at, if_neg (by omega), show q t = c from by rw [hq]; exact if_neg (by omega), dt_congr (N := fun a b => W a (h b)) (fun r b hr hb => ?_)]
    · grind
    · have e1 : laQ.sk t r = r := by unfold laQ.sk; rw [if_pos hr]
      have e2 : laQ.sk t b = b := by unfold laQ.sk; rw [if_pos hb]
      rw [e1, e2, rwr_ne _ _ _ (by omega), hM, hq]
      show (if r < t then W r else u) (if b < t then h b else c) = _
      rw [if_pos hr, if_pos hb]
  · rw [rwr_at, show v (q b) = 0 from by rw [hq]; show v (if b < t then h b else c) = 0; rw [if_pos (by omega)]; exact hz b (by omega)]
    grind
theorem zb_le {S : Nat} {x y : Int} (h : ZB S y) (hl : x.natAbs ≤ y.natAbs) : ZB S x := by unfold ZB at *; omega
structure PrmR (L k : Nat) (W R : Nat → Nat → Int) (h : Nat → Nat) (m : Nat → Nat → Int) : Prop where
  comb : ∀ i, i < k → ∀ c, c < L → R i c = sm (i + 1) (fun j => m i j * W j c)
  top : ∀ i, i < k → m i i ≠ 0
  hd : ∀ i, i < k → h i < L ∧ R i (h i) ≠ 0
  clr : ∀ i, i < k → ∀ j, j < i → R i (h j) = 0
theorem PrmR.det_ne {L k : Nat} {W R : Nat → Nat → Int} {h : Nat → Nat} {m : Nat → Nat → Int} (hR : PrmR L k W R h m) : ∀ t, t ≤ k → dt t (fun a b => W a (h b)) ≠ 0
  | 0, _ => by show (1 : Int) ≠ 0; decide
  | t + 1, ht => fun e => by
    have h0 := hR.det_ne t (by omega)
    have hsplit : ∀ c, c < L → R t c = m t t * W t c + sm t (fun j => m t j * W j c) := fun c hc => by
      rw [hR.comb t (by omega) c hc, sm_last]
      omega
    have h1 := elim_id t W (W t) (R t) h (m t t) (m t) (h t) (fun b hb => hsplit _ (hR.hd b (by omega)).1) (hsplit _ (hR.hd t (by omega)).1) (fun b hb => hR.clr t (by omega) b hb)
    rw [dt_congr (N := fun a b => W a (h b)) (fun a b ha hb => ?_), e, Int.mul_zero] at h1
    · rcases Int.mul_eq_zero.1 h1.symm with h2 | h2
      · exact (hR.hd t (by omega)).2 h2
      · exact h0 h2
    · show (if a < t then W a else W t) (if b < t then h b else h t) = W a (h b)
      have e1 : (if a < t then W a else W t) = W a := by
        by_cases c : a < t
        · rw [if_pos c]
        · rw [if_neg c, show a = t by omega]
      have e2 : (if b < t then h b else h t) = h b := by
        by_cases c : b < t
        · rw [if_pos c]
        · rw [if_neg c, show b = t by omega]
      rw [e1, e2]
theorem PrmR.bound {L k t S : Nat} {W R : Nat → Nat → Int} {h : Nat → Nat} {m : Nat → Nat → Int} (hR : PrmR L k W R h m) (ht : t ≤ k) {u v : Nat → Int} {α : Int} {β : Nat → Int} (hv : ∀ c, c < L → v c = α * u c + sm t (fun j => β j * W j c)) (hα : α ≠ 0) (hz : ∀ j, j < t → v (h j) = 0)
    (hp : Prm L v) (htS : t < 18446744073709551615) (hW : ∀ j c, j < t → c < L → ZB S (W j c)) (hu : ∀ c, c < L → ZB S (u c)) {c : Nat} (hc : c < L) : ZB ((t + 1) * (S + 1) + 1) (v c) := by
  have hD := hR.det_ne t ht
  have hid : ∀ c, c < L → α * dt (t + 1) (fun a b => (if a < t then W a else u) (if b < t then h b else c)) = v c * dt t (fun a b => W a (h b)) := fun c hc =>
    elim_id t W u v h α β c (fun b hb => hv _ (hR.hd b (by omega)).1) (hv c hc) hz
  obtain ⟨y, hy⟩ : α ∣ dt t (fun a b => W a (h b)) := hp.dvd fun c hc => ⟨_, by rw [hid c hc]; exact Int.mul_comm _ _⟩
  have h1 := hid c hc
  rw [hy] at h1
  have h2 : dt (t + 1) (fun a b => (if a < t then W a else u) (if b < t then h b else c)) = v c * y := by
    refine Int.eq_of_mul_eq_mul_left hα ?_
    rw [h1]; grind
  have hy0 : y ≠ 0 := fun e => hD (by rw [hy, e]; exact Int.mul_zero _)
  refine zb_le (y := v c * y) ?_ ?_
  · rw [← h2]
    refine dtZ_zb (t + 1) _ (by omega) fun a b _ _ => ?_
    have hq : (if b < t then h b else c) < L := by
      split
      · exact (hR.hd b (by omega)).1
      · exact hc
    show ZB S ((if a < t then W a else u) _)
    by_cases e : a < t
    · rw [if_pos e]; exact hW a _ e hq
    · rw [if_neg e]; exact hu _ hq
  · rw [Int.natAbs_mul]
    exact Nat.le_mul_of_pos_right _ (by omega)
def vecW (n : Nat) (A : Nat → Nat → Int) (k c : Nat) : Int := if c < n * n then pw n A k (c / n) (c % n) else if c = n * n + k then 1 else 0
theorem vecW_mark {n : Nat} (A : Nat → Nat → Int) (k j : Nat) : vecW n A k (n * n + j) = if j = k then 1 else 0 := by
  unfold vecW
  rw [if_neg (by omega)]
  by_cases e : j = k
  · rw [if_pos (by omega), if_pos e]
  · rw [if_neg (by omega), if_neg e]
structure LpR (n : Nat) (A : Nat → Nat → Int) (k : Nat) (R : Nat → Nat → Int) (h : Nat → Nat) : Prop where
  r : PrmR (n * n + n + 1) k (vecW n A) R h (fun i j => R i (n * n + j))
  hd : ∀ i, i < k → h i < n * n
  le : k ≤ n
structure LpV (n : Nat) (A : Nat → Nat → Int) (k t : Nat) (R : Nat → Nat → Int) (h : Nat → Nat) (v : Nat → Int) : Prop where
  comb : ∀ c, c < n * n + n + 1 → v c = v (n * n + k) * vecW n A k c + sm t (fun j => v (n * n + j) * vecW n A j c)
  top : v (n * n + k) ≠ 0
  clr : ∀ j, j < t → v (h j) = 0
  prm : Prm (n * n + n + 1) v
section
variable {n k t : Nat} {A : Nat → Nat → Int} {R : Nat → Nat → Int} {h : Nat → Nat} {v : Nat → Int}
theorem LpR.start (n : Nat) (A : Nat → Nat → Int) (R : Nat → Nat → Int) (h : Nat → Nat) : LpR n A 0 R h :=
  ⟨⟨fun i hi => absurd hi (by omega), fun i hi => absurd hi (by omega), fun i hi => absurd hi (by omega), fun i hi => absurd hi (by omega)⟩, fun i hi => absurd hi (by omega), Nat.zero_le _⟩
theorem LpV.start (hk : k ≤ n) : LpV n A k 0 R h (vecW n A k) :=
  ⟨fun c hc => by rw [vecW_mark, if_pos rfl]; simp [sm], by rw [vecW_mark, if_pos rfl]; decide, fun j hj => absurd hj (by omega), fun d hd => by
    have := hd (n * n + k) (by omega)
    rwa [vecW_mark, if_pos rfl] at this⟩
theorem LpV.mark (hv : LpV n A k t R h v) (hk : k ≤ n) {j : Nat} (hj : t ≤ j) (hjk : j ≠ k) (hjn : j ≤ n) : v (n * n + j) = 0 := by
  rw [hv.comb _ (by omega), vecW_mark, if_neg hjk, sm_zero (fun i hi => by rw [vecW_mark, if_neg (by omega)]; exact Int.mul_zero _)]
  simp
def lessV (R : Nat → Nat → Int) (h : Nat → Nat) (t : Nat) (v : Nat → Int) : Nat → Int := fun c => R t (h t) * v c - v (h t) * R t c
theorem LpR.mark (hR : LpR n A k R h) {i j : Nat} (hi : i < k) (hj : i < j) (hjn : j ≤ n) : R i (n * n + j) = 0 := by
  rw [hR.r.comb i hi _ (by omega), sm_zero (fun l hl => by rw [vecW_mark, if_neg (by omega)]; exact Int.mul_zero _)]
theorem LpV.less (hv : LpV n A k t R h v) (hR : LpR n A k R h) (hk : k ≤ n) (ht : t < k) :
    (gcdS (n * n + n + 1) (lessV R h t v) ≠ 0) ∧ LpV n A k (t + 1) R h (fun c => lessV R h t v c / (gcdS (n * n + n + 1) (lessV R h t v) : Int)) := by
  have hx := (hR.r.hd t ht).2
  have htop : lessV R h t v (n * n + k) ≠ 0 := by
    unfold lessV
    rw [hR.mark ht ht hk, Int.mul_zero, Int.sub_zero]
    exact Int.mul_ne_zero hx hv.top
  have hg : gcdS (n * n + n + 1) (lessV R h t v) ≠ 0 := fun e => htop (gcdS_zero e _ (by omega))
  have hcomb : ∀ c, c < n * n + n + 1 → lessV R h t v c = lessV R h t v (n * n + k) * vecW n A k c + sm (t + 1) (fun j => lessV R h t v (n * n + j) * vecW n A j c) := by
    intro c hc
    have e1 := hv.comb c hc
    have e2 := hR.r.comb t ht c hc
    have e3 : sm t (fun j => lessV R h t v (n * n + j) * vecW n A j c) = R t (h t) * sm t (fun j => v (n * n + j) * vecW n A j c) - v (h t) * sm t (fun j => R t (n * n + j) * vecW n A j c) := by
      rw [show R t (h t) * sm t (fun j => v (n * n + j) * vecW n A j c) - v (h t) * sm t (fun j => R t (n * n + j) * vecW n A j c) = sm t (fun j => R t (h t) * (v (n * n + j) * vecW n A j c)) + sm t (fun j => (- v (h t)) * (R t (n * n + j) * vecW n A j c)) by rw [sm_mul, sm_mul]; grind, ← sm_add]
      exact sm_congr fun j _ => by unfold lessV; grind
    have e4 := hR.mark ht ht hk
    have e5 := hv.mark hk (Nat.le_refl t) (show t ≠ k by omega) (by omega)
    rw [sm_last, e3]
    replace e2 : R t c = sm t (fun j => R t (n * n + j) * vecW n A j c) + R t (n * n + t) * vecW n A t c := e2
    show R t (h t) * v c - v (h t) * R t c = (R t (h t) * v (n * n + k) - v (h t) * R t (n * n + k)) * vecW n A k c + (_ + (R t (h t) * v (n * n + t) - v (h t) * R t (n * n + t)) * vecW n A t c)
    rw [e1, e2, e4, e5]
    grind
  obtain ⟨g, hgd⟩ : ∃ g : Int, g = (gcdS (n * n + n + 1) (lessV R h t v) : Int) := ⟨_, rfl⟩
  have hg0 : g ≠ 0 := by omega
  have hdiv : ∀ c, c < n * n + n + 1 → g * (lessV R h t v c / g) = lessV R h t v c := fun c hc => by
    rw [hgd]; exact Int.mul_ediv_cancel' (gcdS_dvd hc)
  refine ⟨hg, ?_⟩
  rw [← hgd]
  refine ⟨fun c hc => ?_, fun e => ?_, fun j hj => ?_, hgd ▸ prm_strip hg⟩
  · refine Int.eq_of_mul_eq_mul_left hg0 ?_
    rw [hdiv c hc, hcomb c hc, Int.mul_add, ← sm_mul]
    congr 1
    · rw [← hdiv (n * n + k) (by omega)]
      rw [Int.mul_ediv_cancel_left _ hg0]; grind
    · refine sm_congr fun j hj => ?_
      have := hdiv (n * n + j) (by omega)
      show _ = g * (lessV R h t v (n * n + j) / g * vecW n A j c)
      rw [← Int.mul_assoc, this]
  · have := hdiv (n * n + k) (by omega)
    rw [e, Int.mul_zero] at this
    exact htop this.symm
  · have hlt : h j < n * n + n + 1 := by have := hR.hd j (by omega); omega
    have e0 : lessV R h t v (h j) = 0 := by
      unfold lessV
      by_cases e : j = t
      · subst e; grind
      · rw [hv.clr j (by omega), hR.r.clr t ht j (by omega)]; grind
    rw [e0]; simp
theorem LpV.bound (hv : LpV n A k t R h v) (hR : LpR n A k R h) (hk : k ≤ n) (htk : t ≤ k) (hn : n ≤ 64) {S : Nat} (hS : ∀ j c, j ≤ k → c < n * n + n + 1 → ZB S (vecW n A j c)) {c : Nat} (hc : c < n * n + n + 1) : ZB (65 * (S + 1) + 1) (v c) := by
  refine (hR.r.bound htk hv.comb hv.top hv.clr hv.prm (by omega) (fun j c hj hc => hS j c (by omega) hc) (fun c hc => hS k c (Nat.le_refl _) hc) hc).mono ?_
  have : (t + 1) * (S + 1) ≤ 65 * (S + 1) := Nat.mul_le_mul_right _ (by omega)
  omega
theorem LpV.push (hv : LpV n A k k R h v) (hR : LpR n A k R h) (hk : k < n) {q : Nat} (hq : q < n * n) (hq0 : v q ≠ 0) : LpR n A (k + 1) (fun i => if i = k then v else R i) (fun i => if i = k then q else h i) := by
  refine ⟨⟨fun i hi c hc => ?_, fun i hi => ?_, fun i hi => ?_, fun i hi j hj => ?_⟩, fun i hi => ?_, hk⟩
  · by_cases e : i = k
    · subst e
      simp only [if_true]
      rw [hv.comb c hc, sm_last]
      omega
    · simp only [if_neg e]; exact hR.r.comb i (by omega) c hc
  · by_cases e : i = k
    · subst e; simp only [if_true]; exact hv.top
    · simp only [if_neg e]; exact hR.r.top i (by omega)
  · by_cases e : i = k
    · subst e; simp only [if_true]; exact ⟨by omega, hq0⟩
    · simp only [if_neg e]; exact hR.r.hd i (by omega)
  · by_cases e : i = k
    · subst e
      simp only [if_true, if_neg (show j ≠ i by omega)]
      exact hv.clr j hj
    · simp only [if_neg e, if_neg (show j ≠ k by omega)]; exact hR.r.clr i (by omega) j hj
  · by_cases e : i = k
    · subst e; simp only [if_true]; exact hq
    · simp only [if_neg e]; exact hR.hd i (by omega)
end
end Go.Proofs.Ytejliecmdkmgiaa
namespace Go.Proofs.Ytejliecmdkmgiaa
open laZ
theorem det_kill {t : Nat} {X : Nat → Nat → Int} (hX : dt t X ≠ 0) {e : Nat → Int} (h : ∀ b, b < t → sm t (fun a => e a * X a b) = 0) : ∀ a, a < t → e a = 0 := by
  intro r hr
  have h1 := dt_sumrow X hr t e X
  rw [dt_zero (r := r) _ hr (fun j hj => by rw [rwr_at]; exact h j hj), sm_one _ hr (fun a ha hne => ?_), rwr_self] at h1
  · rcases Int.mul_eq_zero.1 h1.symm with h2 | h2
    · exact h2
    · exact absurd h2 hX
  · rw [dt_alt' (i := a) (k := r) _ ha hr hne (fun j _ => by rw [rwr_ne _ _ _ hne, rwr_at])]
    exact Int.mul_zero _
theorem vecW_low {n : Nat} (A : Nat → Nat → Int) (k : Nat) {c : Nat} (hc : c < n * n) : vecW n A k c = pw n A k (c / n) (c % n) ∧ c / n < n ∧ c % n < n := by
  have hn : 0 < n := Nat.pos_of_ne_zero fun e => by subst e; omega
  exact ⟨if_pos hc, (Nat.div_lt_iff_lt_mul hn).2 hc, Nat.mod_lt _ hn⟩
theorem vecW_at {n : Nat} (A : Nat → Nat → Int) (k : Nat) {i j : Nat} (hi : i < n) (hj : j < n) : i * n + j < n * n ∧ vecW n A k (i * n + j) = pw n A k i j := by
  have h1 : i * n + j < n * n := by
    have := Nat.mul_le_mul_right n (show i + 1 ≤ n by omega)
    rw [Nat.add_mul, Nat.one_mul] at this; omega
  refine ⟨h1, ?_⟩
  unfold vecW
  rw [if_pos h1, Nat.mul_comm i n, Nat.mul_add_div (by omega), Nat.mul_add_mod, Nat.div_eq_of_lt hj, Nat.mod_eq_of_lt hj, Nat.add_zero]
theorem kil_vec {n : Nat} {A : Nat → Nat → Int} {s : Nat} {c : Nat → Int} (h : Kil n A s c) {q : Nat} (hq : q < n * n) : sm s (fun k => c k * vecW n A k q) = 0 := by
  have h2 := h (q / n) (q % n) (vecW_low A 0 hq).2.1 (vecW_low A 0 hq).2.2
  refine Eq.trans (sm_congr fun k _ => ?_) h2
  rw [(vecW_low A k hq).1]
theorem vec_kil {n : Nat} {A : Nat → Nat → Int} {s : Nat} {c : Nat → Int} (h : ∀ q, q < n * n → sm s (fun k => c k * vecW n A k q) = 0) : Kil n A s c := fun i j hi hj => by
  refine Eq.trans (sm_congr fun k _ => ?_) (h (i * n + j) (vecW_at A 0 hi hj).1)
  rw [(vecW_at A k hi hj).2]
section
variable {n k t : Nat} {A : Nat → Nat → Int} {R : Nat → Nat → Int} {h : Nat → Nat} {v : Nat → Int}
theorem LpR.ind (hR : LpR n A k R h) : Ind n A k := fun c hc => det_kill (hR.r.det_ne k (Nat.le_refl _)) fun b hb => kil_vec hc (hR.hd b hb)
theorem LpV.full (hv : LpV n A n n R h v) (hR : LpR n A n R h) {c : Nat} (hc : c < n * n) : v c = 0 := by
  have hm := hv.top
  have hch : ∀ q, q < n * n → vecW n A n q = - sm n (fun j => flq n A (n - j) * vecW n A j q) := fun q hq => by
    have := kil_vec (ch_kil n A) hq
    replace this : sm n (fun j => flq n A (n - j) * vecW n A j q) + flq n A (n - n) * vecW n A n q = 0 := this
    rw [Nat.sub_self, show flq n A 0 = 1 from rfl] at this
    omega
  have he : ∀ q, q < n * n → v q = sm n (fun j => (v (n * n + j) - v (n * n + n) * flq n A (n - j)) * vecW n A j q) := fun q hq => by
    rw [hv.comb q (by omega), hch q hq, show v (n * n + n) * (- sm n (fun j => flq n A (n - j) * vecW n A j q)) = sm n (fun j => (- v (n * n + n)) * (flq n A (n - j) * vecW n A j q)) by rw [sm_mul]; grind, ← sm_add]
    exact sm_congr fun j _ => by grind
  have h0 := det_kill (hR.r.det_ne n (Nat.le_refl _)) (e := fun j => v (n * n + j) - v (n * n + n) * flq n A (n - j)) fun b hb => by
    rw [← he _ (hR.hd b hb)]; exact hv.clr b hb
  rw [he c hc]
  exact sm_zero fun j hj => by rw [show (v (n * n + j) - v (n * n + n) * flq n A (n - j)) = 0 from h0 j hj]; exact Int.zero_mul _
end
theorem pseudo {k : Nat} {m : Nat → Int} (hm : ∀ j, k < j → m j = 0) : ∀ (s : Nat) (f : Nat → Int), (∀ j, k + s ≤ j → f j = 0) → m k ≠ 0 →
    ∃ (D : Int) (U r : Nat → Int), D ≠ 0 ∧ (∀ j, s ≤ j → U j = 0) ∧ (∀ j, k ≤ j → r j = 0) ∧ ∀ j, D * f j = cv m U j + r j
  | 0, f, hf, _ => ⟨1, fun _ => 0, f, by decide, fun _ _ => rfl, fun j hj => hf j (by omega), fun j => by
    rw [show cv m (fun _ => 0) j = 0 from sm_zero fun i _ => Int.mul_zero _]; omega⟩
  | s + 1, f, hf, h0 => by
    obtain ⟨D, U, r, d1, d2, d3, d4⟩ := pseudo hm s (fun j => m k * f j - (if s ≤ j then f (k + s) * m (j - s) else 0)) (fun j hj => by
      show m k * f j - (if s ≤ j then f (k + s) * m (j - s) else 0) = 0
      rw [if_pos (by omega)]
      by_cases e : j = k + s
      · rw [e, show k + s - s = k by omega]; grind
      · rw [hf j (by omega), hm (j - s) (by omega)]; grind) h0
    refine ⟨D * m k, fun j => U j + (if j = s then D * f (k + s) else 0), r, Int.mul_ne_zero d1 h0, fun j hj => ?_, d3, fun j => ?_⟩
    · show U j + (if j = s then _ else (0 : Int)) = 0
      rw [d2 j (by omega), if_neg (by omega)]; rfl
    · have h1 := d4 j
      have h2 : cv m (fun j => U j + (if j = s then D * f (k + s) else 0)) j = cv m U j + (if s ≤ j then D * f (k + s) * m (j - s) else 0) := by
        unfold cv
        rw [sm_congr (g := fun i => m i * U (j - i) + m i * (if j - i = s then D * f (k + s) else 0)) (fun i _ => by grind), sm_add]
        congr 1
        by_cases e : s ≤ j
        · rw [if_pos e, sm_one (k := j - s) _ (by omega) (fun i hi hne => by rw [if_neg (by omega)]; exact Int.mul_zero _), if_pos (by omega)]
          exact Int.mul_comm _ _
        · rw [if_neg e]
          exact sm_zero fun i hi => by rw [if_neg (by omega)]; exact Int.mul_zero _
      rw [h2]
      by_cases e : s ≤ j
      · rw [if_pos e] at h1 ⊢; grind
      · rw [if_neg e] at h1 ⊢; grind
theorem gauss {k n : Nat} {m F : Nat → Int} (hkn : k ≤ n) (hm : ∀ j, k < j → m j = 0) (hp : ∀ d : Int, (∀ j, d ∣ m j) → d ∣ 1) (hF : F n = 1) {D : Int} {U : Nat → Int} (hD : D ≠ 0) (hU : ∀ j, n + 1 - k ≤ j → U j = 0) (h : ∀ j, D * F j = cv m U j) : m k ∣ 1 := by
  have hall : ∀ (b : Nat) (D : Int) (U : Nat → Int), D.natAbs ≤ b → D ≠ 0 → (∀ j, n + 1 - k ≤ j → U j = 0) → (∀ j, D * F j = cv m U j) → ∃ U : Nat → Int, (∀ j, n + 1 - k ≤ j → U j = 0) ∧ ∀ j, F j = cv m U j := by
    intro b
    induction b with
    | zero => intro D U hb hD; omega
    | succ b ih =>
      intro D U hb hD hU hh
      by_cases e : D.natAbs = 1
      · refine ⟨fun j => D * U j, fun j hj => by show D * U j = 0; rw [hU j hj]; exact Int.mul_zero _, fun j => ?_⟩
        have hDD : D * D = 1 := by
          rcases Int.natAbs_eq D with h1 | h1 <;> (rw [e] at h1; rw [h1]; decide)
        rw [show cv m (fun j => D * U j) j = D * cv m U j from by
          unfold cv; rw [← sm_mul]; exact sm_congr fun i _ => by grind, ← hh j, ← Int.mul_assoc, hDD, Int.one_mul]
      · obtain ⟨p, p1, p2, p3⟩ := prime_ex (show 1 < D.natAbs by omega)
        obtain ⟨D', hD'⟩ : (p : Int) ∣ D := Int.natAbs_dvd_natAbs.1 (by rw [Int.natAbs_natCast]; exact p2)
        rcases prime_cv p3 (c := m) (c' := U) (fun j => by rw [← hh j, hD']; exact ⟨D' * F j, by grind⟩) with h1 | h1
        · have := Int.natAbs_dvd_natAbs.2 (hp p h1)
          rw [Int.natAbs_natCast] at this
          have := Nat.le_of_dvd (by decide) this
          simp at this
          omega
        · have hU' : ∀ j, (p : Int) * (U j / p) = U j := fun j => Int.mul_ediv_cancel' (h1 j)
          have hD0 : D' ≠ 0 := fun e => hD (by rw [hD', e]; exact Int.mul_zero _)
          refine ih D' (fun j => U j / p) ?_ hD0 (fun j hj => by show U j / p = 0; rw [hU j hj]; simp) (fun j => ?_)
          · have : D.natAbs = p * D'.natAbs := by rw [hD', Int.natAbs_mul, Int.natAbs_natCast]
            have h2 : 2 * D'.natAbs ≤ p * D'.natAbs := Nat.mul_le_mul_right _ (by omega)
            omega
          · have h2 : (p : Int) * (D' * F j) = p * cv m (fun j => U j / p) j := by
              rw [← Int.mul_assoc, ← hD', hh j]
              unfold cv
              rw [← sm_mul]
              exact sm_congr fun i _ => by
                have := hU' (j - i)
                show m i * U (j - i) = p * (m i * (U (j - i) / p))
                rw [← this, Int.mul_ediv_cancel_left _ (by omega)]; grind
            exact Int.eq_of_mul_eq_mul_left (by omega) h2
  obtain ⟨U', h1, h2⟩ := hall D.natAbs D U (Nat.le_refl _) hD hU h
  have h3 := h2 n
  rw [hF] at h3
  refine ⟨U' (n - k), ?_⟩
  rw [h3]
  unfold cv
  rw [sm_one (k := k) _ (by omega) (fun i hi hne => ?_)]
  by_cases e : i < k
  · rw [h1 (n - i) (by omega)]; exact Int.mul_zero _
  · rw [hm i (by omega)]; exact Int.zero_mul _
structure MinP (n : Nat) (A : Nat → Nat → Int) (k : Nat) (μ : Nat → Int) : Prop where
  one : μ k = 1
  top : ∀ j, k < j → μ j = 0
  kil : Kil n A (k + 1) μ
  ind : Ind n A k
theorem MinP.le {n k : Nat} {A : Nat → Nat → Int} {μ : Nat → Int} (h : MinP n A k μ) : k ≤ n := h.ind.le_rows
theorem MinP.unique {n k k' : Nat} {A : Nat → Nat → Int} {μ μ' : Nat → Int} (h : MinP n A k μ) (h' : MinP n A k' μ') : k = k' ∧ ∀ j, μ j = μ' j := by
  have hle : ∀ {k k' : Nat} {μ μ' : Nat → Int}, MinP n A k μ → MinP n A k' μ' → k ≤ k' := fun {k k'} {μ μ'} h h' => by
    refine Decidable.byContradiction fun hn => ?_
    have := h.ind.le (show k' + 1 ≤ k by omega) μ' h'.kil k' (by omega)
    rw [h'.one] at this
    exact absurd this (by decide)
  obtain rfl : k = k' := Nat.le_antisymm (hle h h') (hle h' h)
  refine ⟨rfl, fun j => ?_⟩
  rcases Nat.lt_trichotomy j k with c | c | c
  · have := h.ind (fun j => μ j + (-1) * μ' j) (fun a b ha hb => by
      have e1 := h.kil a b ha hb
      have e2 := h'.kil a b ha hb
      rw [pmS_add, pmS_smul]
      replace e1 : pmS n A μ k a b + μ k * pw n A k a b = 0 := e1
      replace e2 : pmS n A μ' k a b + μ' k * pw n A k a b = 0 := e2
      rw [h.one] at e1
      rw [h'.one] at e2
      omega) j c
    omega
  · rw [c, h.one, h'.one]
  · rw [h.top j c, h'.top j c]
theorem LpV.min {n k : Nat} {A : Nat → Nat → Int} {R : Nat → Nat → Int} {h : Nat → Nat} {v : Nat → Int} (hv : LpV n A k k R h v) (hR : LpR n A k R h) (h0 : ∀ c, c < n * n → v c = 0) :
    v (n * n + k) ∣ 1 ∧ MinP n A k (fun j => if j ≤ k then v (n * n + j) * v (n * n + k) else 0) := by
  have hkn := hR.le
  obtain ⟨m, hmd⟩ : ∃ m : Nat → Int, m = fun j => if j ≤ k then v (n * n + j) else 0 := ⟨_, rfl⟩
  have hmk : m k = v (n * n + k) := by rw [hmd]; exact if_pos (Nat.le_refl _)
  have hm : ∀ j, k < j → m j = 0 := fun j hj => by rw [hmd]; exact if_neg (by omega)
  have hmj : ∀ j, j ≤ k → m j = v (n * n + j) := fun j hj => by rw [hmd]; exact if_pos hj
  have hkil : Kil n A (k + 1) m := vec_kil fun q hq => by
    rw [sm_last, hmk, sm_congr (g := fun j => v (n * n + j) * vecW n A j q) (fun j hj => by rw [hmj j (by omega)])]
    have := hv.comb q (by omega)
    rw [h0 q hq] at this
    omega
  have hp : ∀ d : Int, (∀ j, d ∣ m j) → d ∣ 1 := fun d hd => hv.prm d fun c hc => by
    by_cases e : c < n * n
    · rw [h0 c e]; exact ⟨0, by simp⟩
    · obtain ⟨j, rfl⟩ : ∃ j, c = n * n + j := ⟨c - n * n, by omega⟩
      by_cases e2 : j ≤ k
      · rw [← hmj j e2]; exact hd j
      · rw [hv.mark hkn (by omega) (by omega) (by omega)]; exact ⟨0, by simp⟩
  obtain ⟨F, hFd⟩ : ∃ F : Nat → Int, F = fun j => if j ≤ n then flq n A (n - j) else 0 := ⟨_, rfl⟩
  have hF1 : F n = 1 := by rw [hFd]; show (if n ≤ n then flq n A (n - n) else 0) = 1; rw [if_pos (Nat.le_refl _), Nat.sub_self]; rfl
  have hF0 : ∀ j, n + 1 ≤ j → F j = 0 := fun j hj => by rw [hFd]; exact if_neg (by omega)
  obtain ⟨D, U, r, d1, d2, d3, d4⟩ := pseudo hm (n + 1 - k) F (fun j hj => hF0 j (by omega)) (by rw [hmk]; exact hv.top)
  have hFk : ∀ i j, i < n → j < n → pmS n A F (n + 1) i j = 0 := fun i j hi hj => by
    rw [pmS_congr (c' := fun j => flq n A (n - j)) (fun k hk => by rw [hFd]; exact if_pos (by omega))]
    exact ch_kil n A i j hi hj
  have hr : ∀ j, j < k → r j = 0 := hR.ind r fun i j hi hj => by
    have e1 : pmS n A (fun j => D * F j) (k + 1 + (n + 1 - k)) i j = 0 := by
      rw [pmS_smul, pmS_to hF0 (by omega), hFk i j hi hj]; exact Int.mul_zero _
    rw [pmS_congr (c' := fun j => cv m U j + r j) (fun j _ => d4 j), pmS_add, pmS_mul A d2 (k + 1) m (fun j hj => hm j (by omega)) i j hi hj, mm_zero_l (fun l hl => hkil i l hi hl), pmS_to d3 (by omega)] at e1
    omega
  have h1 := gauss hkn hm hp hF1 d1 d2 fun j => by
    rw [d4 j]
    by_cases e : k ≤ j
    · rw [d3 j e]; omega
    · rw [hr j (by omega)]; omega
  rw [hmk] at h1
  refine ⟨h1, ⟨?_, fun j hj => if_neg (by omega), fun i j hi hj => ?_, hR.ind⟩⟩
  · show (if k ≤ k then _ else _) = (1 : Int)
    rw [if_pos (Nat.le_refl _)]
    obtain ⟨y, hy⟩ := h1
    rcases Int.natAbs_eq (v (n * n + k)) with e | e
    all_goals
      have h2 : (v (n * n + k)).natAbs ∣ 1 := by
        have := Int.natAbs_dvd_natAbs.2 (⟨y, hy⟩ : v (n * n + k) ∣ 1)
        simpa using this
      have h3 : (v (n * n + k)).natAbs = 1 := by simpa using h2
      rw [h3] at e
      rw [e]; decide
  · rw [pmS_congr (c' := fun j => v (n * n + k) * m j) (fun j hj => by
      rw [hmj j (by omega)]
      show (if j ≤ k then _ else _) = _
      rw [if_pos (by omega), Int.mul_comm]), pmS_smul, hkil i j hi hj]
    exact Int.mul_zero _
end Go.Proofs.Ytejliecmdkmgiaa
namespace Go.Proofs.Ytejliecmdkmgiaa
open laZ
theorem pw_congr {n : Nat} {A B : Nat → Nat → Int} (h : ∀ i j, i < n → j < n → A i j = B i j) : ∀ k i j, i < n → j < n → pw n A k i j = pw n B k i j
  | 0, _, _, _, _ => rfl
  | k + 1, i, j, hi, hj => mm_congr (fun l hl => pw_congr h k i l hi hl) (fun l hl => h l j hl hj)
theorem pmS_congrA {n : Nat} {A B : Nat → Nat → Int} (h : ∀ i j, i < n → j < n → A i j = B i j) (c : Nat → Int) (s : Nat) {i j : Nat} (hi : i < n) (hj : j < n) : pmS n A c s i j = pmS n B c s i j := sm_congr fun k _ => by rw [pw_congr h k i j hi hj]
theorem MinP.congr {n k : Nat} {A B : Nat → Nat → Int} {μ : Nat → Int} (h : MinP n A k μ) (e : ∀ i j, i < n → j < n → A i j = B i j) : MinP n B k μ :=
  ⟨h.one, h.top, fun i j hi hj => by rw [← pmS_congrA e μ _ hi hj]; exact h.kil i j hi hj, fun c hc => h.ind c fun i j hi hj => by rw [pmS_congrA e c _ hi hj]; exact hc i j hi hj⟩
/-! how great -/
theorem zb_nil (S : Nat) : ZB S 0 := by unfold ZB; have := pow_pos' (show (0 : Int) < 18446744073709551616 by omega) S; simpa using this
end Go.Proofs.Ytejliecmdkmgiaa
