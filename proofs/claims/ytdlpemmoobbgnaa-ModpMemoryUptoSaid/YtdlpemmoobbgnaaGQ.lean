/- Plain: [A | 1] brought to its reduced form on all columns at once: inverse, kernel and solution are those of modp's two eliminations. The walk of trellisref12's beside: the reduced rows of [A | 1]. What trellisref12's Inverse and Kernel keep in memory: rows cut at the left, in place or in a list of their own; matrix of a list of rows that may be none. The walk of trellisref12's Inverse where checks pass: modp's inverse, or none. The walk of trellisref12's Kernel where checks pass: modp's kernel. What trellisref12's Solve keeps in memory; where it is refused. The walk of trellisref12's Solve where the checks pass: modp's solution, or none. -/
import Derived.Test.YtdlpemmoobbgnaaGO
import Derived.Test.YtdlpemmoobbgnaaGY
import Derived.Test.YtdlpemmoobbgnaaGP
set_option linter.unusedVariables false
set_option linter.unusedSimpArgs false
namespace Go.Proofs.Ytdlpemmoobbgnaa
open laF

section
variable {q : Nat} [NeZero q] {R K r k : Nat} {P : Nat → Nat} {x : Nat → Raw} {G : Nat → Nat → Int}

theorem sm_cut (m s : Nat) (f : Nat → Fin q) (h : s ≤ m) : sm m f = sm s f + sm (m - s) (fun i => f (s + i)) := by
  obtain ⟨t, rfl⟩ : ∃ t, m = s + t := ⟨m - s, by omega⟩
  rw [sm_split, Nat.add_sub_cancel_left]

/-- the right part of a combination whose left part is 0 -/
theorem right_comb {m s K R : Nat} {P' : Nat → Nat} {M : Nat → Nat → Fin q} {v : Nat → Fin q} (hM : Rref m K s P' M) (hv : Comb m (K + R) M v) (h0 : ∀ j, j < K → v j = 0) :
    Comb (m - s) R (fun i j => M (s + i) (K + j)) (fun j => v (K + j)) := by
  obtain ⟨a, ha⟩ := hv
  have hle := hM.le
  have ha0 : ∀ l, l < s → a l = 0 := fun l hl => by
    rw [← hM.coef (v := v) (fun j hj => ha j (by omega)) hl]
    exact h0 _ (hM.lt l hl)
  refine ⟨fun i => a (s + i), fun j hj => ?_⟩
  show v (K + j) = _
  rw [ha (K + j) (by omega), sm_cut m s _ hle, sm_zero (n := s) (fun i hi => by rw [ha0 i hi]; grind)]
  grind

theorem laF.Rref.cut {m n r k K : Nat} {P : Nat → Nat} {N : Nat → Nat → Fin q} (h : Rref m n r P N) (hk : k ≤ r) (hK : K ≤ n) (h1 : ∀ l, l < k → P l < K) (h2 : k < r → K ≤ P k) : Rref m K k P N := by
  have hge : ∀ i, k ≤ i → i < r → K ≤ P i := fun i h3 h4 => by
    rcases Nat.eq_or_lt_of_le h3 with e | e
    · rw [← e]; exact h2 (by omega)
    · have := h.mono k i e h4; have := h2 (by omega); omega
  refine ⟨by have := h.le; omega, h1, fun i j a b => h.mono i j a (by omega), fun i j a b => h.lead i j (by omega) b, fun i a => h.one i (by omega), fun i l a b c => h.col i l a (by omega) c, fun i j a b c => ?_⟩
  by_cases e : i < r
  · exact h.lead i j e (by have := hge i a e; omega)
  · exact h.rest i j (by omega) b (by omega)

theorem laF.Rref.below {m r k K R : Nat} {P : Nat → Nat} {N : Nat → Nat → Fin q} (h : Rref m (K + R) r P N) (hk : k ≤ r) (h2 : k < r → K ≤ P k) :
    Rref (m - k) R (r - k) (fun i => P (k + i) - K) (fun i j => N (k + i) (K + j)) := by
  have hle := h.le
  have hge : ∀ i, k + i < r → K ≤ P (k + i) := fun i h4 => by
    rcases Nat.eq_zero_or_pos i with e | e
    · rw [e]; exact h2 (by omega)
    · have := h.mono k (k + i) (by omega) h4; have := h2 (by omega); omega
  refine ⟨by omega, fun i hi => ?_, fun i j hij hj => ?_, fun i j hi hj => ?_, fun i hi => ?_, fun i l hi hl hne => ?_, fun i j hi him hj => h.rest _ _ (by omega) (by omega) (by omega)⟩
  · have := h.lt (k + i) (by omega); have := hge i (by omega)
    show P (k + i) - K < R; omega
  · have := h.mono (k + i) (k + j) (by omega) (by omega); have := hge i (by omega)
    show P (k + i) - K < P (k + j) - K; omega
  · have hj : j < P (k + i) - K := hj
    exact h.lead (k + i) (K + j) (by omega) (by omega)
  · have := hge i (by omega)
    show N (k + i) (K + (P (k + i) - K)) = 1
    rw [show K + (P (k + i) - K) = P (k + i) by omega]; exact h.one _ (by omega)
  · have := hge l (by omega)
    show N (k + i) (K + (P (k + l) - K)) = 0
    rw [show K + (P (k + l) - K) = P (k + l) by omega]; exact h.col _ _ (by omega) (by omega) (by omega)

/-- how many pivots stand in the first K columns -/
theorem bes12_split (hp : isPB q = true) (h : RdS q R (K + R) (K + R) r r r 0 P (besG q K x) G) (hk : k ≤ r) (h1 : ∀ l, l < k → P l < K) (h2 : k < r → K ≤ P k) :
    k = kerR q R K x ∧ (∀ i, i < k → P i = (besS q R K x).P.getD i 0) ∧ ∀ i j, i < k → j < K → phG q G i j = phG q (besS q R K x).G i j := by
  obtain ⟨b1, b2⟩ := besS_ok hp R K x
  have hs := (h.sp.symm.trans b2).left (n' := K) (by omega)
  have hc := h.rref.cut hk (by omega : K ≤ K + R) h1 h2
  obtain ⟨e1, e2, e3⟩ := Rref.unique (one_ne (isPB_ge q hp)) hc b1 (fun i hi => hs.1 i (by have := hc.le; omega)) (fun i hi => hs.2 i (by have := b1.le; omega))
  exact ⟨e1, e2, e3⟩

/-- the rows below are the kernel's -/
theorem bes12_ker (hp : isPB q = true) (h : RdS q R (K + R) (K + R) r r r 0 P (besG q K x) G) (hk : k ≤ r) (h1 : ∀ l, l < k → P l < K) (h2 : k < r → K ≤ P k) :
    r = R ∧ (∀ i, i < R - k → P (k + i) = K + (kerS q R K x).P.getD i 0) ∧ ∀ i j, i < R - k → j < R → G (k + i) (K + j) = (kerS q R K x).G i j := by
  have hq := isPB_ge q hp
  obtain ⟨rfl, -, -⟩ := bes12_split hp h hk h1 h2
  obtain ⟨b1, b2⟩ := besS_ok hp R K x
  obtain ⟨k1, k2⟩ := kerS_ok hp R K x
  have hf := ker_full hp R K x
  have hc := h.rref.cut hk (by omega : K ≤ K + R) h1 h2
  have hbl := h.rref.below hk h2
  have hs := h.sp.symm.trans b2
  have hle := h.le
  have hN0 : ∀ i, kerR q R K x ≤ i → i < R → ∀ j, j < K → phG q G i j = 0 := fun i a b j hj => hc.rest i j a b hj
  have hM0 : ∀ i, kerR q R K x ≤ i → i < R → ∀ j, j < K → phG q (besS q R K x).G i j = 0 := fun i a b j hj => b1.rest i j a b hj
  have s1 : ∀ i, i < R - kerR q R K x → Comb (R - kerR q R K x) R (phG q (kerG q R K x)) (fun j => phG q G (kerR q R K x + i) (K + j)) := fun i hi =>
    right_comb (v := phG q G (kerR q R K x + i)) b1 (hs.1 _ (by omega)) (hN0 _ (by omega) (by omega))
  have s2 : ∀ i, i < R - kerR q R K x → Comb (R - kerR q R K x) R (fun i j => phG q G (kerR q R K x + i) (K + j)) (phG q (kerG q R K x) i) := fun i hi =>
    right_comb (v := phG q (besS q R K x).G (kerR q R K x + i)) hc (hs.2 _ (by omega)) (hM0 _ (by omega) (by omega))
  obtain ⟨e1, e2, e3⟩ := Rref.unique (one_ne hq) hbl k1 (fun i hi => (s1 i (by omega)).trans k2.1) (fun i hi => (k2.2 i (by omega)).trans s2)
  rw [hf] at e1
  have hr : r = R := by omega
  refine ⟨hr, fun i hi => ?_, fun i j hi hj => ?_⟩
  · have e := e2 i (by omega)
    have : K ≤ P (kerR q R K x + i) := by
      rcases Nat.eq_zero_or_pos i with e | e
      · rw [e]; exact h2 (by omega)
      · have := h.mono (kerR q R K x) (kerR q R K x + i) (by omega) (by omega); have := h2 (by omega); omega
    try dsimp only at e
    omega
  · have g1 := h.res (kerR q R K x + i) (K + j) (by omega) (by omega)
    have g2 := kerS_res (p := q) (by omega) R K x i j hi hj
    exact ph_inj g1.1 g1.2 g2.1 g2.2 (e3 i j (by omega) hj)

/-- full rank: the right part is the inverse -/
theorem bes12_inv (hp : isPB q = true) (h : RdS q R (K + R) (K + R) r r r 0 P (besG q K x) G) (hf : kerR q R K x = R) : ∀ i j, i < R → j < K + R → G i j = (besS q R K x).G i j := by
  have hq := isPB_ge q hp
  obtain ⟨b1, b2⟩ := besS_ok hp R K x
  rw [hf] at b1
  have b3 : Rref R (K + R) R (fun i => (besS q R K x).P.getD i 0) (phG q (besS q R K x).G) :=
    ⟨Nat.le_refl _, fun i hi => by have := b1.lt i hi; omega, b1.mono, b1.lead, b1.one, b1.col, fun i j a b => absurd b (by omega)⟩
  have hs := h.sp.symm.trans b2
  have hle := h.le
  obtain ⟨e1, e2, e3⟩ := Rref.unique (one_ne hq) h.rref b3 (fun i hi => hs.1 i (by omega)) (fun i hi => hs.2 i hi)
  intro i j hi hj
  have g1 := h.res i j hi hj
  have g2 := besS_res q (by omega) R K x i j hi hj
  exact ph_inj g1.1 g1.2 g2.1 g2.2 (e3 i j (by omega) hj)

/-- a row cleared at the pivots, one after the other, as the reference does it -/
def clr12 (p : Int) (G : Nat → Nat → Int) (P : Nat → Nat) (f : Nat → Int) : Nat → Nat → Int
  | 0 => f
  | i + 1 => fun c => (clr12 p G P f i c + (p - clr12 p G P f i (P i) % p) * G i c) % p
theorem clr12_res {p : Int} (hp : 1 ≤ p) {n : Nat} {G : Nat → Nat → Int} {P : Nat → Nat} {f : Nat → Int} (hf : ∀ c, c < n → 0 ≤ f c ∧ f c < p) : ∀ i c, c < n → 0 ≤ clr12 p G P f i c ∧ clr12 p G P f i c < p
  | 0, c, hc => hf c hc
  | i + 1, c, hc => ⟨Int.emod_nonneg _ (by omega), Int.emod_lt_of_pos _ (by omega)⟩
theorem clr12_ph {m n r : Nat} {G : Nat → Nat → Int} {P : Nat → Nat} {f : Nat → Int} (h : Rref m n r P (phG q G)) : ∀ i, i ≤ r → ∀ c, c < n →
    (ph (clr12 q G P f i c) : Fin q) = ph (f c) - sm i (fun l => ph (f (P l)) * phG q G l c)
  | 0, _, c, _ => by show ph (f c) = ph (f c) - 0; grind
  | i + 1, hi, c, hc => by
    have h1 := clr12_ph (f := f) h i (by omega) c hc
    have h2 := clr12_ph (f := f) h i (by omega) (P i) (h.lt i (by omega))
    rw [sm_zero (n := i) (fun l hl' => by rw [h.col l i (by have := h.le; omega) (by omega) (by omega)]; grind)] at h2
    show ph ((clr12 q G P f i c + ((q : Int) - clr12 q G P f i (P i) % q) * G i c) % q) = _
    rw [ph_mod, ph_add, ph_mul, ph_sub_p, ph_mod, h1, h2]
    simp only [sm]
    unfold phG; grind
/-- at the pivots nothing stays -/
theorem clr12_zero {m n r : Nat} {G : Nat → Nat → Int} {P : Nat → Nat} {f : Nat → Int} (h : Rref m n r P (phG q G)) {k : Nat} (hk : k < r) : (ph (clr12 q G P f r (P k)) : Fin q) = 0 := by
  rw [clr12_ph h r (Nat.le_refl r) _ (h.lt k hk), sm_one _ hk (fun l hl hne => by rw [h.col l k (by have := h.le; omega) hk hne]; grind), h.one k hk]; grind
end

section
variable {q : Nat} [NeZero q] {R K r k : Nat} {P : Nat → Nat} {x b : Nat → Raw} {G : Nat → Nat → Int}

theorem laF.Comb.sub {m n : Nat} {N : Nat → Nat → Fin q} {u v : Nat → Fin q} (hu : Comb m n N u) (hv : Comb m n N v) : Comb m n N (fun j => u j - v j) :=
  (hu.add (hv.scale (-1))).congr fun j _ => by grind

/-- what the reference's clearing leaves: modp's two clearings -/
theorem bes12_sol (hp : isPB q = true) (h : RdS q R (K + R) (K + R) r r r 0 P (besG q K x) G) :
    (∀ j, j < K → clr12 q G P (sol0 q K b) r j = sol1 q R K x b j) ∧ (∀ j, j < R → ((q : Int) - clr12 q G P (sol0 q K b) r (K + j)) % q = sol3 q R K x b j) := by
  have hq := isPB_ge q hp
  obtain ⟨b1, b2⟩ := besS_ok hp R K x
  obtain ⟨k1, k2⟩ := kerS_ok hp R K x
  have hN := h.rref
  have hs := h.sp.symm.trans b2
  have hle := h.le
  -- how many pivots stand on the left
  obtain ⟨k, hk, h1, h2⟩ : ∃ k, k ≤ r ∧ (∀ l, l < k → P l < K) ∧ (k < r → K ≤ P k) := by
    have : ∀ n, n ≤ r → ∃ k, k ≤ n ∧ (∀ l, l < k → P l < K) ∧ (k < n → K ≤ P k) := by
      intro n
      induction n with
      | zero => intro _; exact ⟨0, Nat.le_refl _, fun l hl => absurd hl (by omega), fun h => absurd h (by omega)⟩
      | succ n ih =>
        intro hn
        obtain ⟨k, a, b, c⟩ := ih (by omega)
        by_cases e : k < n
        · exact ⟨k, by omega, b, fun _ => c e⟩
        · by_cases e' : P n < K
          · refine ⟨n + 1, by omega, fun l hl => ?_, fun h => absurd h (by omega)⟩
            by_cases e2 : l = n
            · rw [e2]; exact e'
            · exact b l (by omega)
          · exact ⟨n, by omega, fun l hl => b l (by omega), fun _ => by omega⟩
    obtain ⟨k, a, b, c⟩ := this r (Nat.le_refl r)
    exact ⟨k, a, b, c⟩
  obtain ⟨rfl, p1, -⟩ := bes12_split hp h hk h1 h2
  obtain ⟨rfl, p2, g2⟩ := bes12_ker hp h hk h1 h2
  have hf := ker_full hp r K x
  -- sol1 less b is a combination
  have d1 : Comb r (K + r) (phG q (besS q r K x).G) (fun c => ph (sol0 q K b c) - ph (sol1 q r K x b c)) := by
    refine ⟨fun l => if l < (besS q r K x).P.length then ph (b ((besS q r K x).P.getD l 0)).val else 0, fun c hc => ?_⟩
    dsimp only
    rw [sol1_ph hp r K x b hc]
    have hlr : (besS q r K x).P.length ≤ r := by have := b1.le; unfold kerR at this; exact this
    rw [sm_cut r (besS q r K x).P.length _ hlr, sm_zero (n := r - (besS q r K x).P.length) (fun i _ => by rw [if_neg (by omega)]; grind)]
    rw [sm_congr (n := (besS q r K x).P.length) (f := fun l => (if l < (besS q r K x).P.length then ph (b ((besS q r K x).P.getD l 0)).val else 0) * phG q (besS q r K x).G l c) (g := fun l => ph (b ((besS q r K x).P.getD l 0)).val * phG q (besS q r K x).G l c) (fun l hl => by rw [if_pos hl])]
    grind
  have hx2 : ∀ t, 0 ≤ sol2 q r K x b t ∧ sol2 q r K x b t < q := fun t => ⟨Int.emod_nonneg _ (by omega), Int.emod_lt_of_pos _ (by omega)⟩
  have hy : ∀ t, t < r → (ph (sol3 q r K x b t) : Fin q) = ph (sol2 q r K x b t) - sm (kerS q r K x).P.length (fun l => ph (sol2 q r K x b ((kerS q r K x).P.getD l 0)) * phG q (kerS q r K x).G l t) := fun t ht =>
    clr_ph (f := sol2 q r K x b) (n := r) (j := r) k1 (Nat.le_refl r) _ (Nat.le_refl _) t ht
  -- the target
  obtain ⟨T, hT⟩ : ∃ T : Nat → Fin q, T = fun c => if c < K then ph (sol1 q r K x b c) else - ph (sol3 q r K x b (c - K)) := ⟨_, rfl⟩
  have tl : ∀ c, c < K → T c = ph (sol1 q r K x b c) := fun c hc => by rw [hT]; exact if_pos hc
  have tr : ∀ t, T (K + t) = - ph (sol3 q r K x b t) := fun t => by rw [hT]; show (if K + t < K then _ else - ph (sol3 q r K x b (K + t - K))) = _; rw [if_neg (by omega), Nat.add_sub_cancel_left]
  have hs2 : ∀ t, (ph (sol2 q r K x b t) : Fin q) = - ph (sol1 q r K x b (K + t)) := fun t => by unfold sol2; rw [ph_mod, ph_sub_p]
  -- sol1 less the target: rows of the kernel behind zeros
  have d2 : Comb r (K + r) (phG q G) (fun c => ph (sol1 q r K x b c) - T c) := by
    refine ⟨fun l => if l < kerR q r K x then 0 else - ph (sol2 q r K x b ((kerS q r K x).P.getD (l - kerR q r K x) 0)), fun c hc => ?_⟩
    have hkr := kerR_le q r K x
    dsimp only
    rw [sm_cut r (kerR q r K x) _ hkr, sm_zero (n := kerR q r K x) (fun i hi => by rw [if_pos hi]; grind)]
    rw [sm_congr (n := r - kerR q r K x) (g := fun i => - ph (sol2 q r K x b ((kerS q r K x).P.getD i 0)) * phG q G (kerR q r K x + i) c) (fun i hi => by rw [if_neg (by omega), Nat.add_sub_cancel_left])]
    by_cases hcK : c < K
    · rw [tl c hcK, sm_zero (fun i hi => by rw [(hN.cut hk (by omega : K ≤ K + r) h1 h2).rest _ c (by omega) (by omega) hcK]; grind)]; grind
    · obtain ⟨t, rfl⟩ : ∃ t, c = K + t := ⟨c - K, by omega⟩
      rw [tr t, hy t (by omega), hs2 t, hf]
      rw [sm_congr (n := r - kerR q r K x) (f := fun i => - ph (sol2 q r K x b ((kerS q r K x).P.getD i 0)) * phG q G (kerR q r K x + i) (K + t)) (g := fun i => (-1) * (ph (sol2 q r K x b ((kerS q r K x).P.getD i 0)) * phG q (kerS q r K x).G i t)) (fun i hi => by
        unfold phG; rw [g2 i t hi (by omega)]; grind), sm_mul]
      grind
  have d3 : Comb r (K + r) (phG q G) (fun c => ph (sol0 q K b c) - ph (clr12 q G P (sol0 q K b) r c)) := by
    refine ⟨fun l => ph (sol0 q K b (P l)), fun c hc => ?_⟩
    dsimp only
    rw [clr12_ph hN r (Nat.le_refl r) c hc]; grind
  have d4 : Comb r (K + r) (phG q G) (fun c => ph (clr12 q G P (sol0 q K b) r c) - T c) :=
    (((d1.trans hs.2).add d2).sub d3).congr fun c _ => by grind
  -- the target is 0 at the pivots
  have tz : ∀ l, l < r → T (P l) = 0 := fun l hl => by
    by_cases e : l < kerR q r K x
    · rw [tl _ (h1 l e), p1 l e]
      have hbl := b1.lt l e
      try dsimp only at hbl
      rw [sol1_ph hp r K x b (by omega), sol0_ph hq hbl, sm_one _ (show l < (besS q r K x).P.length from e) (fun i hi hne => by
        have := b1.col i l (by have := b1.le; unfold kerR at this; omega) e hne
        try dsimp only at this
        rw [this]; grind)]
      have := b1.one l e
      try dsimp only at this
      rw [this]; grind
    · obtain ⟨t, rfl⟩ : ∃ t, l = kerR q r K x + t := ⟨l - kerR q r K x, by omega⟩
      rw [p2 t (by omega), tr]
      have hlt := k1.lt t (by rw [hf]; omega)
      try dsimp only at hlt
      rw [hy _ hlt, sm_one _ (show t < (kerS q r K x).P.length by rw [hf]; omega) (fun i hi hne => by
        have := k1.col i t (by rw [hf] at hi; exact hi) (by rw [hf]; omega) hne
        try dsimp only at this
        rw [this]; grind)]
      have := k1.one t (by rw [hf]; omega)
      try dsimp only at this
      rw [this]; grind
  have fin : ∀ c, c < K + r → (ph (clr12 q G P (sol0 q K b) r c) : Fin q) = T c := fun c hc => by
    have e := hN.exp d4 hc
    rw [sm_zero (fun i hi => by
      show (ph (clr12 q G P (sol0 q K b) r (P i)) - T (P i)) * _ = 0
      rw [clr12_zero hN hi, tz i hi]; grind)] at e
    grind
  have hb0 : ∀ c, c < K + r → 0 ≤ sol0 q K b c ∧ sol0 q K b c < q := fun c _ => by
    unfold sol0; split
    · exact resid_bd _ _ (by omega)
    · omega
  refine ⟨fun j hj => ?_, fun j hj => ?_⟩
  · have g1 := clr12_res (p := q) (by omega) (G := G) (P := P) hb0 r j (by omega)
    have g3 := clr_res (p := q) (by omega) (n := K + r) (G := (besS q r K x).G) (P := (besS q r K x).P) hb0 (besS q r K x).P.length j (by omega)
    exact ph_inj g1.1 g1.2 g3.1 g3.2 ((fin j (by omega)).trans (tl j hj))
  · have g3 := clr_res (p := q) (by omega) (n := r) (G := (kerS q r K x).G) (P := (kerS q r K x).P) (f := sol2 q r K x b) (fun c _ => hx2 c) (kerS q r K x).P.length j hj
    refine ph_inj (Int.emod_nonneg _ (by omega)) (Int.emod_lt_of_pos _ (by omega)) g3.1 g3.2 ?_
    rw [ph_mod, ph_sub_p, fin _ (by omega), tr]
    show _ = (ph (sol3 q r K x b j) : Fin q)
    grind
end
end Go.Proofs.Ytdlpemmoobbgnaa

namespace Go.Proofs.Ytdlpemmoobbgnaa
open Go.RowKit

/-- the unit row is made -/
theorem bes_pre12 {e E : TypeId} {wr : World} {base gb m : Nat} {B N C : Nat → Nat} {G : Nat → Nat → Int} (h : Rag .i64 e E wr base gb m B N C G) {l : Nat} (hl : l < m) :
    Rag .i64 e E ((wr.alloc (.cells (madeCells #[.int .i64 0] m) e)).setCell ⟨wr.heap.size, l, none⟩ (.int .i64 1)) base gb m B N C G ∧
    Below wr.heap.size wr ((wr.alloc (.cells (madeCells #[.int .i64 0] m) e)).setCell ⟨wr.heap.size, l, none⟩ (.int .i64 1)) ∧
    (wr.alloc (.cells (madeCells #[.int .i64 0] m) e)).cell? ⟨wr.heap.size, l, none⟩ = some (.int .i64 0) ∧ (wr.alloc (.cells (madeCells #[.int .i64 0] m) e)).frozen? ⟨wr.heap.size, l, none⟩ = false ∧
    (∀ j u, ((List.range m).map fun i => Value.int .i64 (if i = l then 1 else 0))[j]? = some u →
      ((wr.alloc (.cells (madeCells #[.int .i64 0] m) e)).setCell ⟨wr.heap.size, l, none⟩ (.int .i64 1)).cell? (Addr.add ⟨wr.heap.size, 0, none⟩ j) = some u) ∧
    ((wr.alloc (.cells (madeCells #[.int .i64 0] m) e)).setCell ⟨wr.heap.size, l, none⟩ (.int .i64 1)).ownsRow base e 1 (.slice (some ⟨B l, 0, none⟩) (N l) (C l)) (N l) ((List.range (N l)).map fun i => .int .i64 (G l i)) := by
  have hb : Below wr.heap.size wr ((wr.alloc (.cells (madeCells #[.int .i64 0] m) e)).setCell ⟨wr.heap.size, l, none⟩ (.int .i64 1)) :=
    ((Below.refl _ _).alloc (Nat.le_refl _) _).setCell (Nat.le_refl _) _
  have c := CellsAt.made wr (.int .i64 0) m e
  have cl := c.get0 hl rfl
  have c2 := c.set0 hl (.int .i64 1)
  have h2 := h.below hb
  refine ⟨h2, hb, cl.1, cl.2, fun j u hj => ?_, ?_⟩
  · have hjm : j < m := by have := (List.getElem?_eq_some_iff.1 hj).1; simpa using this
    rw [Addr.add_lit]
    have := (c2 j hjm).1
    rw [this]
    simp [hjm] at hj
    rw [← hj]
    show some (if j = l then Value.int .i64 1 else Value.int .i64 0) = some (Value.int .i64 (if j = l then 1 else 0))
    by_cases ej : j = l
    · rw [if_pos ej, if_pos ej]
    · rw [if_neg ej, if_neg ej]
  · obtain ⟨⟨cur, hB, hs⟩, hr⟩ := h2.rows l hl
    refine ⟨by simp, Or.inr ⟨B l, C l, cur, rfl, h.own l hl, hB, (h.caps l hl).1, (h.caps l hl).2.2, by omega, ?_⟩⟩
    · apply List.ext_getElem?
      intro i
      rw [Nat.mul_one, List.getElem?_take]
      by_cases hi : i < N l
      · rw [if_pos hi]
        have := (hr i hi).1
        rw [Nat.zero_add, cell_of_row _ _ _ _ _ _ hB] at this
        simp [hi, this]
      · rw [if_neg hi, List.getElem?_eq_none (by simp; omega)]

theorem bes_list12 (p : Int) (K R l : Nat) (x : Nat → Raw) : (List.range K).map (fun i => Value.int .i64 (resG p K x l i)) ++ (List.range R).map (fun i => Value.int .i64 (if i = l then 1 else 0)) =
    (List.range (K + R)).map fun i => .int .i64 (besG p K x l i) := by
  rw [range_two]
  congr 1
  · refine List.map_congr_left fun j hj => ?_
    have hjK : j < K := by simpa using hj
    unfold besG; rw [if_pos hjK]
  · refine List.map_congr_left fun j hj => ?_
    have h1 : ¬ K + j < K := by omega
    unfold besG
    by_cases e : j = l
    · rw [if_pos e, if_neg h1, if_pos (show K + j = K + l by omega)]
    · rw [if_neg e, if_neg h1, if_neg (show ¬ K + j = K + l by omega)]

set_option maxHeartbeats 4000000 in
set_option maxRecDepth 100000 in
theorem beside12_any (q : Nat) [NeZero q] (p : Int) (hqp : (q : Int) = p) (hq : isPB q = true) (h2 : p < 2147483648) (R K : Nat) (hR : R ≤ 64) (hK : K ≤ 64) (s : Value) (x : Nat → Raw) (w : World) (hr : RdL w s (R * K) x) :
    Calls Try.prog 116 #[.agg #[.int .i64 R, .int .i64 K, s], .int .i64 p] w fun e w' =>
      ∃ gb B O C r P G pa pc, e = .returned (.tuple #[.slice (some ⟨gb, 0, none⟩) R R, .slice pa r pc]) ∧ RdS q R (K + R) (K + R) r r r 0 P (besG p K x) G ∧
        RRel w w' w.heap.size gb 0 R (K + R) r P (.slice pa r pc) B O C G ∧ gb < w'.heap.size ∧ ∀ bb, Value.ownBlock (.slice pa r pc) = some bb → bb < w'.heap.size := by
  have hq2 := isPB_ge q hq
  have h1 : 1 ≤ p := by omega
  have m1 := mk_12i R (by omega)
  obtain ⟨a, cap, rfl, hl⟩ := hr.slice
  obtain ⟨i0, hi, hz0, hz1, hz2⟩ := info_parts infoInt
  have HI := Lib.hid (And.intro hi (And.intro hz0 (And.intro hz1 hz2)))
  have hres : Res q R (K + R) (besG p K x) := by rw [hqp]; exact besG_res p (by omega) R K x
  have ht := fun W h => table12_any p h1 h2 R K (R * K) hR hK rfl (.slice a (R * K) cap) x W h
  have hs := fun W (base gb : Nat) (B C : Nat → Nat) h1' h2' => stairs12_any q p hqp h1 h2 R (K + R) (K + R) R base gb 0 B (fun _ => 0) C (besG p K x) (by omega) (by omega) (Nat.le_refl _) hres W h1' h2'
  have hd := fun W (r base gb : Nat) (B O C' : Nat → Nat) (P : Nat → Nat) G pv h1' h2' h3' h4' h5' => reduced12_any q p hqp hq h2 R (K + R) (K + R) r R base gb 0 B O C' P (besG p K x) G (by omega) (by omega) (Nat.le_refl _) pv W h1' h2' h3' h4' h5'
  have hst := fun (r : Nat) P G s' (h : StI q R (K + R) (K + R) r (r + 1) P (besG p K x) G s') => h.reds hq
  have hbx0 := box_mat w (.int .i64 R) (.int .i64 K) (.slice a (R * K) cap) 34
  have hH : Has (w.alloc (.cells #[.int .i64 R, .int .i64 K, .slice a (R * K) cap] 34)) [(_, _), (_, _), (_, _)] := ⟨hbx0.2.1, hbx0.2.2.1, hbx0.2.2.2, trivial⟩
  have H0 := Lib.hid hH
  have G0 := Lib.hid (And.intro hbx0.1 hbx0.1.size)
  have HT := Lib.hid ht
  have HS := Lib.hid hs
  have HD := Lib.hid hd
  have HST := Lib.hid hst
  have RD := Lib.hid (hr.below hbx0.1)
  clear ht hs hd hst hr hH hbx0 hq hres hi hz0 hz1 hz2
  go_enter Try.func116, Try.ntmps116
  go_wp2_with fail
  refine (HT.out _ RD.out).mono ?_
  obtain ⟨w0, hw0⟩ : ∃ w0, w0 = w.alloc (.cells #[.int .i64 R, .int .i64 K, .slice a (R * K) cap] 34) := ⟨_, rfl⟩
  rw [← hw0] at H0 G0 ⊢
  clear RD
  have hs0 : w0.heap.size = w.heap.size + 1 := by rw [hw0]; simp
  clear hw0
  rintro e w1 ⟨gb, B, rfl, hpt, hb1⟩
  have HRG := Lib.hid (Rag.of hpt (by omega))
  have HBW := Lib.hid hb1
  clear hpt hb1
  go_wp2_with fail
  go_loopw [7] (fun iv wr => ∃ (l : Nat) (B C : Nat → Nat), l ≤ R ∧ iv = .int .i64 l ∧
      Rag .i64 3 45 wr w0.heap.size gb R B (fun i => if i < l then K + R else K) C (fun i => if i < l then besG p K x i else resG p K x i) ∧ Below w0.heap.size w0 wr) (fun iv _ => R - (intOf iv).toNat)
  case atStart =>
    refine ⟨0, B, _, by omega, rfl, HRG.out.congr (fun i _ => (if_neg (by omega)).symm) (fun i j _ _ => ?_), HBW.out⟩
    rw [if_neg (by omega)]; rfl
  case round =>
    clear HRG HBW B
    obtain ⟨l, B, C, l1, rfl, hrag, hbel⟩ := hrel
    by_cases hl : l < R
    · obtain ⟨r1, r2, r3, r4, r5, r6⟩ := bes_pre12 hrag hl
      rw [if_neg (Nat.lt_irrefl l), show (if l < l then besG p K x l else resG p K x l) = resG p K x l from if_neg (Nat.lt_irrefl l)] at r6
      obtain ⟨k1, k2⟩ := r1.cells.get0 hl (x := .slice (some ⟨B l, 0, none⟩) K (C l)) (by rw [if_neg (Nat.lt_irrefl l)])
      have he := World.setCell_alloc_new (w := wr) (madeCells #[.int .i64 0] R) 3 l (.int .i64 1)
      rw [he] at r1 r2 r5 r6 k1 k2
      obtain ⟨xs, hxs⟩ : ∃ xs, xs = (List.range K).map (fun i => Value.int .i64 (resG p K x l i)) := ⟨_, rfl⟩
      obtain ⟨news, hnews⟩ : ∃ news, news = (List.range R).map (fun i => Value.int .i64 (if i = l then 1 else 0)) := ⟨_, rfl⟩
      have hxn := bes_list12 p K R l x
      have hnl : news.length = R * 1 := by rw [hnews]; simp
      have hno : ∀ u ∈ news, u.oneCell' = true := by rw [hnews]; intro u hu; obtain ⟨j, _, rfl⟩ := List.mem_map.1 hu; rfl
      rw [← hxs, ← hnews] at hxn
      rw [← hnews] at r5
      rw [← hxs] at r6
      have HXN := Lib.hid hxn
      clear hxn hxs hnews
      have R1 := Lib.hid r1
      have R2 := Lib.hid r2
      have R5 := Lib.hid r5
      have R6 := Lib.hid r6
      have HB := Lib.hid hbel
      clear r1 r2 r5 r6 hrag hbel he
      have hsw := HB.out.size
      go_wp2_with (at_builtin; refine wpList_append_lies _ rfl _ _ 45 rfl w0.heap.size 3 i0 (.int .i64 0) 1 8 Try.underlying45 HI.out.1 HI.out.2.1 HI.out.2.2.1 HI.out.2.2.2 rfl (by decide) _ _ _ rfl R6.out ⟨wr.heap.size, 0, none⟩ R R _ rfl ?c1 R5.out ?c2 ?c3 ?c4 ?c5 ?c6 _ rfl ?_)
      case c1 => exact hnl
      case c2 => exact hno
      case c3 => omega
      case c4 => unfold maxLen; omega
      case c5 => omega
      case c6 => have := R2.out.size; omega
      · intro g cp w5 hown hgrow hat hlt
        obtain ⟨o1, o2, o3, o4⟩ := own_row (k := .i64) (f := besG p K x l) hown HXN.out
        have hoff := R1.out.off l hl
        have how := R1.out.own l hl
        have hog := R1.out.ownG
        have hgbs := R1.out.blk.lt
        obtain ⟨c1, c2⟩ := (R1.out.cells.grown hgrow (by simp [Value.ownBlock]; omega)).get0 hl (x := .slice (some ⟨B l, 0, none⟩) K (C l)) (by rw [if_neg (Nat.lt_irrefl l)])
        have hs2 := R2.out.size
        have hrag := R1.out.widen hl hgrow (by rcases hat with h | h; exact Or.inl h; exact Or.inr (by rw [h]; simp)) o1 o2 ⟨o3, by omega, o4⟩ (by omega)
        have hbel := ((HB.out.trans (R2.out.mono hsw)).grown hgrow (by omega) (fun k hk => by simp [Value.ownBlock] at hk; show w0.heap.size ≤ k; omega)).setCell (p := ⟨gb, l, none⟩) hog (.slice (some ⟨g, 0, none⟩) (K + R) cp)
        have HRG := Lib.hid hrag
        have HBL := Lib.hid hbel
        clear hrag hbel R1 R2 R5 R6 HB hown hgrow o1 o2 o3 o4
        go_wp2_with fail
        go_roundw
        case rel =>
          refine ⟨l + 1, _, _, by omega, by go_num, HRG.out.congr (fun i _ => ?_) (fun i j _ _ => ?_), HBL.out⟩
          · by_cases e : i = l
            · subst e; rw [upd_same, if_pos (by omega)]
            · rw [upd_other _ _ e]
              by_cases e2 : i < l
              · rw [if_pos e2, if_pos (by omega)]
              · rw [if_neg e2, if_neg (by omega)]
          · by_cases e : i = l
            · subst e; rw [upd_same, if_pos (by omega)]
            · rw [upd_other _ _ e]
              by_cases e2 : i < l
              · rw [if_pos e2, if_pos (by omega)]
              · rw [if_neg e2, if_neg (by omega)]
        case measure => simp [intOf]; omega
    · obtain rfl : R = l := by omega
      have hg := (hrag.congr (N' := fun _ => K + R) (G' := besG p K x) (fun i hi => if_pos hi) (fun i j hi _ => by rw [if_pos hi])).grid
      obtain ⟨x0, x1, -⟩ := H0.out.below hbel
      dsimp only at x0 x1
      have HG := Lib.hid hg
      have HB := Lib.hid hbel
      have hgbs := hrag.blk.lt
      clear hg hbel hrag
      have e1 : (K : Int) + (R : Int) = ((K + R : Nat) : Int) := by omega
      have e2 : IntKind.i64.wrap ((K + R : Nat) : Int) = ((K + R : Nat) : Int) := IntWalk.i64_in _ (by omega)
      obtain ⟨L, hL⟩ : ∃ L, L = K + R := ⟨_, rfl⟩
      rw [← hL] at HG HS HD HST e1 e2 ⊢
      have HLL := Lib.hid hL
      clear hL
      go_wp2_with fail
      refine (HS.out wr w0.heap.size gb B C HG.out HB.out.size).mono ?_
      rintro e w7 ⟨r, P, G, s, pv, B', O', C', rfl, hsr⟩
      obtain ⟨a7, c7, rfl⟩ := own_slice hsr.own
      have HSR := Lib.hid hsr
      have HB7 := Lib.hid (HB.out.trans hsr.below)
      have hgb7 := Nat.lt_of_lt_of_le hgbs hsr.size
      clear hsr x0 x1
      go_wp2_with fail
      refine (HD.out w7 r w0.heap.size gb B' O' C' P G (.slice a7 r c7) (HST.out r P G s HSR.out.st) HSR.out.grid (own_rdA (by have := HSR.out.st.le; omega) HSR.out.own) (srel_ap HSR.out) HB7.out.size).mono ?_
      rintro e w8 ⟨rfl, G', hrd, hrr⟩
      have HRDS := Lib.hid hrd
      have HRR := Lib.hid hrr
      have HB8 := Lib.hid (G0.out.1.trans ((HB7.out.trans hrr.below).mono G0.out.2))
      have hgb8 := Nat.lt_of_lt_of_le hgb7 hrr.below.size
      have hpb8 : ∀ bb, Value.ownBlock (.slice a7 r c7) = some bb → bb < w8.heap.size := fun bb hbb => Nat.lt_of_lt_of_le (HSR.out.own.lt bb hbb).2 hrr.below.size
      clear hrd hrr
      go_wp2_with fail
      go_ret2
      have hL := HLL.out
      subst hL
      exact ⟨gb, B', O', C', r, P, G', a7, c7, rfl, HRDS.out, ⟨HRR.out.grid.mono G0.out.2, HRR.out.piv, HRR.out.ap, HB8.out⟩, hgb8, hpb8⟩
end Go.Proofs.Ytdlpemmoobbgnaa

namespace Go.Proofs.Ytdlpemmoobbgnaa
open Go.RowKit

/-- a grid of rows of K + n numbers, of which the first l rows have lost their first K -/
structure Cut12 (w : World) (base gb go m K n l : Nat) (B O C : Nat → Nat) (G : Nat → Nat → Int) : Prop where
  cells : ∀ i, i < m → w.cell? ⟨gb, go + i, none⟩ = some (if i < l then .slice (some ⟨B i, O i + K, none⟩) n (C i - K) else .slice (some ⟨B i, O i, none⟩) (K + n) (C i)) ∧ w.frozen? ⟨gb, go + i, none⟩ = false
  rows : ∀ i, i < m → RowAt .i64 w (B i) (O i) (K + n) (G i)
  apart : ∀ i j, i < m → j < m → B i = B j → i = j
  off : ∀ i, i < m → B i ≠ gb
  caps : ∀ i, i < m → K + n ≤ C i ∧ K + n ≤ 17592186044416
  own : ∀ i, i < m → base ≤ B i
  ownG : base ≤ gb
  lt : ∀ i, i < m → B i < w.heap.size

section
variable {w w' : World} {base gb go m K n l : Nat} {B O C : Nat → Nat} {G : Nat → Nat → Int}

theorem Cut12.start (h : GridAt .i64 w base gb go m (K + n) B O C G) : Cut12 w base gb go m K n 0 B O C G :=
  { h with cells := fun i hi => by rw [if_neg (Nat.not_lt_zero i)]; exact h.cells i hi }

theorem Cut12.drew (h : Cut12 w base gb go m K n l B O C G) : Cut12 w.drew base gb go m K n l B O C G :=
  ⟨h.cells, h.rows, h.apart, h.off, h.caps, h.own, h.ownG, h.lt⟩

theorem Cut12.next (h : Cut12 w base gb go m K n l B O C G) (hl : l < m) : Cut12 (w.setCell ⟨gb, go + l, none⟩ (.slice (some ⟨B l, O l + K, none⟩) n (C l - K))) base gb go m K n (l + 1) B O C G := by
  refine { h with cells := fun i hi => ?_, rows := fun i hi => (h.rows i hi).other (fun e => h.off i hi (by simpa using e.symm)) _, lt := fun i hi => by simpa using h.lt i hi }
  obtain ⟨c1, c2⟩ := h.cells i hi
  rw [World.frozen?_setCell]
  refine ⟨?_, c2⟩
  by_cases e : i = l
  · subst e
    rw [if_pos (by omega)]
    exact World.cell?_setCell_same _ _ _ c1
  · rw [World.cell?_setCell_other _ _ _ _ (by intro e'; injection e' with _ e3 _; omega), c1]
    by_cases e2 : i < l
    · rw [if_pos e2, if_pos (by omega)]
    · rw [if_neg e2, if_neg (by omega)]

theorem Cut12.done (h : Cut12 w base gb go m K n m B O C G) : GridAt .i64 w base gb go m n B (fun i => O i + K) (fun i => C i - K) (fun i j => G i (K + j)) :=
  ⟨fun i hi => by have := h.cells i hi; rw [if_pos hi] at this; exact this,
   fun i hi j hj => by have := h.rows i hi (K + j) (by omega); rw [← Nat.add_assoc] at this; exact this,
   h.apart, h.off, fun i hi => by have := h.caps i hi; omega, h.own, h.ownG, h.lt⟩
end

/-- n rows from the place k on, cut: as values -/
def cutL (B O C : Nat → Nat) (K R k n : Nat) : List Value := (List.range n).map fun t => .slice (some ⟨B (k + t), O (k + t) + K, none⟩) R (C (k + t) - K)
theorem cutL_snoc (B O C : Nat → Nat) (K R k n : Nat) : cutL B O C K R k (n + 1) = cutL B O C K R k n ++ [.slice (some ⟨B (k + n), O (k + n) + K, none⟩) R (C (k + n) - K)] := by
  unfold cutL; rw [List.range_succ, List.map_append]; rfl

/-- what Kernel's loop keeps -/
structure CutL (w wr : World) (base B0 gb R K k n : Nat) (pv : Value) (B O C : Nat → Nat) (G : Nat → Nat → Int) : Prop where
  grid : GridAt .i64 wr base gb 0 R (K + R) B O C G
  own : wr.ownsRow B0 45 1 pv n (cutL B O C K R k n)
  below : Below base w wr
  size : B0 ≤ wr.heap.size
  low : ∀ i, i < R → B i < B0
  lowG : gb < B0
  le : base ≤ B0

section
variable {w wr w1 : World} {base B0 gb R K k n : Nat} {pv pv' : Value} {B O C : Nat → Nat} {G : Nat → Nat → Int}
theorem CutL.start (hg : GridAt .i64 w base gb 0 R (K + R) B O C G) (hb : base ≤ w.heap.size) (hgb : gb < w.heap.size) : CutL w w base w.heap.size gb R K k 0 (.slice none 0 0) B O C G :=
  ⟨hg, World.ownsRow_nil w w.heap.size 45 1, Below.refl _ _, Nat.le_refl _, hg.lt, hgb, hb⟩
theorem CutL.drew (h : CutL w wr base B0 gb R K k n pv B O C G) : CutL w wr.drew base B0 gb R K k n pv B O C G :=
  ⟨h.grid.drew, h.own.drew, h.below.drew, h.size, h.low, h.lowG, h.le⟩
theorem CutL.push {X : Obj} (h : CutL w wr base B0 gb R K k n pv B O C G) (ho : w1.ownsRow B0 45 1 pv' (n + 1) (cutL B O C K R k n ++ [.slice (some ⟨B (k + n), O (k + n) + K, none⟩) R (C (k + n) - K)]))
    (hg : (wr.alloc X).grownBy w1 pv.ownBlock) : CutL w w1 base B0 gb R K k (n + 1) pv' B O C G := by
  obtain ⟨g1, g2, g3⟩ := app_relK h.le h.lowG h.grid h.low h.own h.below h.size hg
  exact ⟨g1, by rw [cutL_snoc]; exact ho, g2, g3, h.low, h.lowG, h.le⟩
/-- the list as a grid -/
theorem CutL.out (h : CutL w wr base B0 gb R K k n pv B O C G) (hn : 0 < n) (hk : k + n ≤ R) : ∃ g cap, pv = .slice (some ⟨g, 0, none⟩) n cap ∧
    GridAt .i64 wr base g 0 n R (fun i => B (k + i)) (fun i => O (k + i) + K) (fun i => C (k + i) - K) (fun i j => G (k + i) (K + j)) := by
  obtain ⟨h0, h1⟩ := h.own
  rcases h1 with ⟨-, e⟩ | ⟨g, cap, cur, rfl, h2, h3, h4, h5, h6, h7⟩
  · omega
  · refine ⟨g, cap, rfl, ⟨fun i hi => ⟨?_, ?_⟩, fun i hi j hj => ?_, fun i j hi hj e => ?_, fun i hi => ?_, fun i hi => ?_, fun i hi => ?_, Nat.le_trans h.le h2, fun i hi => ?_⟩⟩
    · rw [Nat.zero_add, cell_of_row _ _ _ _ _ _ h3]
      have := congrArg (·[i]?) h7
      simp only [cutL] at this
      rw [List.getElem?_take, if_pos (by omega)] at this
      simpa [hi] using this
    · unfold World.frozen?
      rw [show (⟨g, 0 + i, none⟩ : Addr).block = g from rfl, h3]; simp
    · have := h.grid.rows (k + i) (by omega) (K + j) (by omega)
      rw [← Nat.add_assoc] at this; exact this
    · have := h.grid.apart (k + i) (k + j) (by omega) (by omega) e; omega
    · have := h.low (k + i) (by omega); show B (k + i) ≠ g; omega
    · have := h.grid.caps (k + i) (by omega); show R ≤ C (k + i) - K ∧ _; omega
    · exact h.grid.own (k + i) (by omega)
    · exact h.grid.lt (k + i) (by omega)
end

set_option maxHeartbeats 1000000 in
theorem matrix12_nil (n : Nat) (hn : n ≤ 128) (w : World) :
    Calls Try.prog 112 #[.slice none 0 0, .int .i64 n] w fun e w' => ∃ v, e = .returned (.agg #[.int .i64 0, .int .i64 n, v]) ∧ OwnF w' w.heap.size v 0 (fun _ => small 0) ∧ Below w.heap.size w w' := by
  have ws := MtRel.start w 0 n (fun _ => small 0)
  rw [Int.natCast_zero] at ws
  have WS := Lib.hid ws
  clear ws
  go_enter Try.func112, Try.ntmps112
  go_wp2_with fail
  generalize (w.alloc (.cells #[.int .i64 0, .int .i64 0, .slice none 0 0] 34)).alloc (.cells #[.int .i64 0, .int .i64 n, .slice none 0 0] 34) = W0 at WS ⊢
  go_loopw [6] (fun iv wr => iv = .int .i64 0 ∧ MtRel w wr 0 n 0 (.slice none 0 0) (fun _ => small 0) (fun _ => .slice none 0 0)) (fun _ _ => 0)
  case atStart => exact ⟨rfl, WS.out⟩
  case round =>
    obtain ⟨rfl, hrel⟩ := hrel
    have m0 := hrel.m0
    rw [Int.natCast_zero] at m0
    have m1 := hrel.m1
    have m2 := hrel.m2
    obtain ⟨r0, s0⟩ := hrel.r0
    obtain ⟨r1, s1⟩ := hrel.r1
    obtain ⟨r2, s2⟩ := hrel.r2
    have HR := Lib.hid hrel
    clear hrel
    go_wp2_with fail
    have hs : Below w.heap.size w (((wr.setCell ⟨w.heap.size, 0, none⟩ (.int .i64 0)).setCell ⟨w.heap.size, 1, none⟩ (.int .i64 n)).setCell ⟨w.heap.size, 2, none⟩ (.slice none 0 0)) :=
      ((HR.out.below.setCell (p := ⟨w.heap.size, 0, none⟩) (Nat.le_refl _) _).setCell (p := ⟨w.heap.size, 1, none⟩) (Nat.le_refl _) _).setCell (p := ⟨w.heap.size, 2, none⟩) (Nat.le_refl _) _
    refine bodyPost_ret (v := .agg #[.int .i64 0, .int .i64 n, .slice none 0 0]) ?_ rfl ⟨_, rfl, OwnF.start _ _ _, hs⟩
    simp [results, Try.results112, go_sem, r0, r1, r2]

/-- matrix of the list -/
theorem matrix12_cut {w wr : World} {base B0 gb R K k n : Nat} {pv : Value} {B O C : Nat → Nat} {G : Nat → Nat → Int} (h : CutL w wr base B0 gb R K k n pv B O C G) (hk : k + n ≤ R) (hR : R ≤ 128) (hG : ∀ i j, i < n → j < R → 0 ≤ G (k + i) (K + j) ∧ G (k + i) (K + j) < 2147483648) :
    Calls Try.prog 112 #[pv, .int .i64 R] wr fun e w' => ∃ v, e = .returned (.agg #[.int .i64 n, .int .i64 R, v]) ∧
      OwnF w' wr.heap.size v (n * R) (fun q => small (G (k + q / R) (K + q % R))) ∧ Below wr.heap.size wr w' := by
  rcases Nat.eq_zero_or_pos n with rfl | hn
  · have : pv.ownBlock = none ∨ ∃ g cap, pv = .slice (some ⟨g, 0, none⟩) 0 cap := by
      rcases h.own.2 with ⟨rfl, -⟩ | ⟨g, cap, cur, rfl, -⟩
      · exact Or.inl rfl
      · exact Or.inr ⟨g, cap, rfl⟩
    rcases h.own.2 with ⟨rfl, -⟩ | ⟨g, cap, cur, rfl, h2, h3, -⟩
    · refine (matrix12_nil R hR wr).mono ?_
      rintro e w' ⟨v, rfl, ho, hb⟩
      exact ⟨v, rfl, by rw [Nat.zero_mul]; exact ho.congr fun i hi => absurd hi (by omega), hb⟩
    · refine (matrix12_any 0 R cap base g 0 B O C (fun i j => G (k + i) (K + j)) (by omega) hR (fun i j hi => absurd hi (by omega)) wr ⟨fun i hi => absurd hi (by omega), fun i hi => absurd hi (by omega), fun i j hi => absurd hi (by omega), fun i hi => absurd hi (by omega), fun i hi => absurd hi (by omega), fun i hi => absurd hi (by omega), Nat.le_trans h.le h2, fun i hi => absurd hi (by omega)⟩).mono ?_
      rintro e w' ⟨v, rfl, ho, hb⟩
      exact ⟨v, rfl, ho, hb⟩
  · obtain ⟨g, cap, rfl, hg⟩ := h.out hn hk
    exact matrix12_any n R cap base g 0 _ _ _ _ (by omega) hR (fun i j hi hj => hG i j hi hj) wr hg
end Go.Proofs.Ytdlpemmoobbgnaa

namespace Go.Proofs.Ytdlpemmoobbgnaa
open Go.RowKit

set_option maxHeartbeats 4000000 in
set_option maxRecDepth 100000 in
theorem Inverse12_good (R : Nat) (p : Int) (hR : R ≤ 64) (hp : primeB p = true) (s : Value) (x : Nat → Raw) (w : World) (hr : RdL w s (R * R) x) :
    Calls Try.prog 88 #[.agg #[.int .i64 R, .int .i64 R, s], .int .u64 p] w fun e w' => ∃ v, e = .returned (.tuple #[v, .int .i64 (if kerR p R R x < R then 6 else 0)]) ∧
      (kerR p R R x < R → v = .agg #[.int .i64 0, .int .i64 0, .slice none 0 0]) ∧ (¬ kerR p R R x < R → ∃ s', v = .agg #[.int .i64 R, .int .i64 R, s'] ∧ OwnF w' w.heap.size s' (R * R) (fun t => small ((besS p R R x).G (t / R) (R + t % R)))) ∧ Below w.heap.size w w' := by
  obtain ⟨q, hqp, hq, hz⟩ := prime_nat hp
  obtain ⟨p0, p1⟩ := primeB_bd hp
  obtain ⟨a, cap, rfl, hl⟩ := hr.slice
  have hRR : R * R ≤ 4096 := Nat.mul_le_mul hR hR
  have hc := fun W => checks_any R R a (R * R) cap hl p (by omega) true W
  rw [show (!(true && ((R : Int) != R))) = true by simp, openE_good hR hR rfl hp] at hc
  have hbs := fun W h => beside12_any q p hqp.symm hq p1 R R hR hR (.slice a (R * R) cap) x W h
  have hL : ∀ (r k : Nat) P G, RdS q R (R + R) (R + R) r r r 0 P (besG p R x) G → k ≤ r → (∀ l, l < k → P l < R) → (k < r → R ≤ P k) → k = kerR p R R x ∧ (¬ kerR p R R x < R → ∀ i j, i < R → j < R → G i (R + j) = (besS p R R x).G i (R + j)) := fun r k P G h h1 h2 h3 => by
    subst hqp
    obtain ⟨e1, -⟩ := bes12_split hq h h1 h2 h3
    exact ⟨e1, fun hn i j hi hj => bes12_inv hq h (by have := kerR_le q R R x; omega) i (R + j) hi (by omega)⟩
  obtain ⟨L, hLd⟩ : ∃ L, L = kerR p R R x := ⟨_, rfl⟩
  obtain ⟨S, hS⟩ : ∃ S, S = (besS p R R x).G := ⟨_, rfl⟩
  rw [← hLd, ← hS] at hL ⊢
  have hsp := fun W (r : Nat) (P : Nat → Nat) v h1 h2 h3 => split12_any r R h1 (by omega) P v W h2 h3
  have hm := fun W (base gb : Nat) (B O C' : Nat → Nat) (G : Nat → Nat → Int) hG h1 => matrix12_any R R R base gb 0 B O C' G (by omega) (by omega) hG W h1
  have hbx0 := box_mat w (.int .i64 R) (.int .i64 R) (.slice a (R * R) cap) 34
  have hH : Has (w.alloc (.cells #[.int .i64 R, .int .i64 R, .slice a (R * R) cap] 34)) [(_, _), (_, _), (_, _)] := ⟨hbx0.2.1, hbx0.2.2.1, hbx0.2.2.2, trivial⟩
  have hal : Below (w.alloc (.cells #[.int .i64 R, .int .i64 R, .slice a (R * R) cap] 34)).heap.size (w.alloc (.cells #[.int .i64 R, .int .i64 R, .slice a (R * R) cap] 34)) ((w.alloc (.cells #[.int .i64 R, .int .i64 R, .slice a (R * R) cap] 34)).alloc (.cells #[.int .i64 0, .int .i64 0, .slice none 0 0] 34)) := (Below.refl _ _).alloc (Nat.le_refl _) _
  have h3 := three_cells (w.alloc (.cells #[.int .i64 R, .int .i64 R, .slice a (R * R) cap] 34)) (.int .i64 0) (.int .i64 0) (.slice none 0 0) 34
  rw [show (w.alloc (.cells #[.int .i64 R, .int .i64 R, .slice a (R * R) cap] 34)).heap.size = w.heap.size + 1 by simp] at h3
  have r0 := h3 0 _ rfl
  have r1 := h3 1 _ rfl
  have r2 := h3 2 _ rfl
  have H0 := Lib.hid (Has.below hH hal)
  have G0 := Lib.hid (stage hbx0.1 hbx0.1.size hal)
  have HR0 := Lib.hid (And.intro r0 (And.intro r1 r2))
  have HC := Lib.hid hc
  have HBS := Lib.hid hbs
  have HSP := Lib.hid hsp
  have HM := Lib.hid hm
  have HL := Lib.hid hL
  have HRD := Lib.hid hr
  have HQP := Lib.hid hqp
  clear hc hbs hsp hm hL hr hH hbx0 hp hal h3 r0 r1 r2 hqp hq hLd hS
  go_enter Try.func88, Try.ntmps88
  go_wp2_with fail
  refine (HC.out _).mono ?_
  rintro e w1 ⟨rfl, hb1⟩
  have G1 := Lib.hid (stage G0.out.1 G0.out.2 hb1)
  have H1 := Lib.hid (H0.out.below hb1)
  have HR1 := Lib.hid (And.intro (And.intro (cell_stays hb1 HR0.out.1.1) (froz_stays hb1 HR0.out.1.1 HR0.out.1.2)) (And.intro (And.intro (cell_stays hb1 HR0.out.2.1.1) (froz_stays hb1 HR0.out.2.1.1 HR0.out.2.1.2)) (And.intro (cell_stays hb1 HR0.out.2.2.1) (froz_stays hb1 HR0.out.2.2.1 HR0.out.2.2.2))))
  clear hb1
  obtain ⟨x0, x1, x2, -⟩ := H1.out
  dsimp only at x0 x1 x2
  have RD := Lib.hid (HRD.out.below G1.out.1)
  have hwp : IntKind.i64.wrap p = p := IntWalk.i64_in _ (by omega)
  go_wp2_with fail
  refine (HBS.out w1 RD.out).mono ?_
  rintro e w6 ⟨gb, B, O, C', r, P, G, pa, pc, rfl, hrd, hrr, hgb6, -⟩
  have HRDS := Lib.hid hrd
  have HRR := Lib.hid hrr
  have y1 := cell_stays hrr.below x1
  clear hrd hrr x0 x1 x2
  have hrR := HRDS.out.le
  go_wp2_with fail
  refine (HSP.out w6 r P (.slice pa r pc) (by omega) HRR.out.piv (fun i hi => by have := HRDS.out.lt i hi; omega)).mono ?_
  rintro e w7 ⟨k, rfl, k1, k2, k3, hb7⟩
  obtain ⟨rfl, hinv⟩ := HL.out r k P G HRDS.out k1 k2 k3
  have HIN := Lib.hid hinv
  have HB7 := Lib.hid (HRR.out.below.trans (hb7.mono HRR.out.below.size))
  have hgr := HRR.out.grid.below hb7
  have HG := Lib.hid hgr
  have y1 := cell_stays hb7 y1
  have hkR : k ≤ R := by omega
  clear hb7 hinv k2 k3 hgr
  by_cases hlt : k < R
  · have hd : ((k : Int) < (R : Int)) := by omega
    have s0 := cell_stays HB7.out HR1.out.1.1
    have s1 := froz_stays HB7.out HR1.out.1.1 HR1.out.1.2
    have s2 := cell_stays HB7.out HR1.out.2.1.1
    have s3 := froz_stays HB7.out HR1.out.2.1.1 HR1.out.2.1.2
    have s4 := cell_stays HB7.out HR1.out.2.2.1
    have s5 := froz_stays HB7.out HR1.out.2.2.1 HR1.out.2.2.2
    have hb8 : Below w.heap.size w w7 := G1.out.1.trans (HB7.out.mono G1.out.2)
    have hb9 := ((hb8.setCell (p := ⟨w.heap.size + 1, 0, none⟩) (Nat.le_succ w.heap.size) (.int .i64 0)).setCell (p := ⟨w.heap.size + 1, 1, none⟩) (Nat.le_succ w.heap.size) (.int .i64 0)).setCell (p := ⟨w.heap.size + 1, 2, none⟩) (Nat.le_succ w.heap.size) (.slice none 0 0)
    have HB9 := Lib.hid hb9
    clear hb8 hb9
    go_wp2_with fail
    refine bodyPost_ret (v := .tuple #[.agg #[.int .i64 0, .int .i64 0, .slice none 0 0], .int .i64 6]) ?_ rfl (by first | exact ⟨_, by rw [if_pos hlt], fun _ => rfl, fun h => absurd hlt h, HB9.out⟩ | exact ⟨_, rfl, rfl, HB9.out⟩)
    simp [results, Try.results88, go_sem, s0, s2, s4]
  · obtain rfl : k = R := by omega
    have hc0 := Cut12.start HG.out
    have HC0 := Lib.hid hc0
    clear hc0 hlt
    go_wp2_with fail
    go_loopw [10] (fun iv wr => ∃ l : Nat, l ≤ k ∧ iv = .int .i64 l ∧ Cut12 wr w1.heap.size gb 0 k k k l B O C' G ∧ Below w1.heap.size w1 wr) (fun iv _ => k - (intOf iv).toNat)
    case atStart => exact ⟨0, by omega, rfl, HC0.out, HB7.out⟩
    case round =>
      clear HC0 y1
      obtain ⟨l, l1, rfl, hcut, hbel⟩ := hrel
      have y1 := cell_stays hbel H1.out.2.1
      dsimp only at y1
      have HC := Lib.hid hcut
      have HB := Lib.hid hbel
      clear hcut hbel
      by_cases hl : l < k
      · obtain ⟨c1, c2⟩ := HC.out.cells l hl
        rw [if_neg (Nat.lt_irrefl l), Nat.zero_add] at c1
        rw [Nat.zero_add] at c2
        have hcap := HC.out.caps l hl
        have g5 : (0 : Int) ≤ (l : Int) := by omega
        have g6 : (l : Int) < (k : Int) := by omega
        go_wp2_with fail
        have hlen : k + k - k = k := Nat.add_sub_cancel k k
        go_region
        all_goals
          have hn := HC.out.drew.next hl
          rw [Nat.zero_add] at hn
          have HN2 := Lib.hid hn
          have hog := HC.out.ownG
          have hO3 := Lib.hid (HB.out.drew.setCell (p := ⟨gb, l, none⟩) hog (.slice (some ⟨B l, O l + k, none⟩) k (C' l - k)))
          clear hn
          go_wp2_with fail
          go_roundw
          case rel => exact ⟨l + 1, by omega, by go_num, by first | exact HN2.out | (rw [hlen]; exact HN2.out), by first | exact hO3.out | (rw [hlen]; exact hO3.out)⟩
          case measure => simp [intOf]; omega
      · obtain rfl : k = l := by omega
        have hg := HC.out.done
        have HG := Lib.hid hg
        clear hg HC
        go_wp2_with fail
        refine (HM.out wr w1.heap.size gb B _ _ _ (fun i j hi hj => by have := HRDS.out.res i (k + j) hi (by omega); rw [← HQP.out] at this; omega) HG.out).mono ?_
        rintro e w9 ⟨v9, rfl, ho, hb9⟩
        obtain ⟨a9, c9, rfl⟩ := ho.slice
        have HB9 := Lib.hid (HB.out.trans (hb9.mono HB.out.size))
        have hco := ho.congr (Y := fun t => small (S (t / k) (k + t % k))) fun t ht => by
          have hk0 : 0 < k := by rcases Nat.eq_zero_or_pos k with e | e; · subst e; omega
                                 · exact e
          show small (G (t / k) (k + t % k)) = small _
          rw [HIN.out (by omega) (t / k) (t % k) (Nat.div_lt_of_lt_mul ht) (Nat.mod_lt _ hk0)]
        have HO := Lib.hid hco
        clear ho hb9 hco y1
        have s0 := cell_stays HB9.out HR1.out.1.1
        have s1 := froz_stays HB9.out HR1.out.1.1 HR1.out.1.2
        have s2 := cell_stays HB9.out HR1.out.2.1.1
        have s3 := froz_stays HB9.out HR1.out.2.1.1 HR1.out.2.1.2
        have s4 := cell_stays HB9.out HR1.out.2.2.1
        have s5 := froz_stays HB9.out HR1.out.2.2.1 HR1.out.2.2.2
        have hlt : w.heap.size + 1 < wr.heap.size := by
          have h1 := World.block_lt_of_cell? w1 _ HR1.out.1.1
          have h2 := HB.out.size
          dsimp only at h1; omega
        have hb8 : Below w.heap.size w w9 := G1.out.1.trans (HB9.out.mono G1.out.2)
        have hb9 := ((hb8.setCell (p := ⟨w.heap.size + 1, 0, none⟩) (Nat.le_succ w.heap.size) (.int .i64 k)).setCell (p := ⟨w.heap.size + 1, 1, none⟩) (Nat.le_succ w.heap.size) (.int .i64 k)).setCell (p := ⟨w.heap.size + 1, 2, none⟩) (Nat.le_succ w.heap.size) (.slice a9 (k * k) c9)
        have ho := (((HO.out.set (a := ⟨w.heap.size + 1, 0, none⟩) hlt (.int .i64 k)).set (a := ⟨w.heap.size + 1, 1, none⟩) hlt (.int .i64 k)).set (a := ⟨w.heap.size + 1, 2, none⟩) hlt (.slice a9 (k * k) c9)).mono (base' := w.heap.size) (by omega)
        have HB10 := Lib.hid hb9
        have HO9 := Lib.hid ho
        clear hb8 hb9 ho
        go_wp2_with fail
        refine bodyPost_ret (v := .tuple #[.agg #[.int .i64 k, .int .i64 k, .slice a9 (k * k) c9], .int .i64 0]) ?_ rfl (by first | exact ⟨_, by rw [if_neg (Nat.lt_irrefl k)], fun h => absurd h (Nat.lt_irrefl k), fun _ => ⟨_, rfl, HO9.out⟩, HB10.out⟩ | exact ⟨_, rfl, ⟨_, rfl, HO9.out⟩, HB10.out⟩)
        simp [results, Try.results88, go_sem, s0, s2, s4]
end Go.Proofs.Ytdlpemmoobbgnaa

namespace Go.Proofs.Ytdlpemmoobbgnaa
open Go.RowKit

theorem one_cell (w : World) (v : Value) (t : TypeId) : ∀ j u, [v][j]? = some u → (w.alloc (.cells #[v] t)).cell? (Addr.add ⟨w.heap.size, 0, none⟩ j) = some u := fun j u hj => by
  match j, hj with
  | 0, hj =>
    simp at hj; subst hj
    rw [Addr.add_lit, cell_of_row _ _ _ _ _ _ (heap_alloc_new w _)]; rfl

set_option maxHeartbeats 4000000 in
set_option maxRecDepth 100000 in
theorem Kernel12_good (R K : Nat) (p : Int) (hR : R ≤ 64) (hK : K ≤ 64) (hp : primeB p = true) (s : Value) (x : Nat → Raw) (w : World) (hr : RdL w s (R * K) x) :
    Calls Try.prog 89 #[.agg #[.int .i64 R, .int .i64 K, s], .int .u64 p] w fun e w' => ∃ v, e = .returned (.tuple #[.agg #[.int .i64 (R - kerR p R K x : Nat), .int .i64 R, v], .int .i64 0]) ∧
      OwnF w' w.heap.size v ((R - kerR p R K x) * R) (fun t => small ((kerS p R K x).G (t / R) (t % R))) ∧ Below w.heap.size w w' := by
  obtain ⟨q, hqp, hq, hz⟩ := prime_nat hp
  obtain ⟨p0, p1⟩ := primeB_bd hp
  obtain ⟨a, cap, rfl, hl⟩ := hr.slice
  have hc := fun W => checks_any R K a (R * K) cap hl p (by omega) false W
  rw [show openE R K (R * K) p (!(false && ((R : Int) != K))) = 0 from openE_good hR hK rfl hp] at hc
  have hbs := fun W h => beside12_any q p hqp.symm hq p1 R K hR hK (.slice a (R * K) cap) x W h
  have hL : ∀ (r k : Nat) P G, RdS q R (K + R) (K + R) r r r 0 P (besG p K x) G → k ≤ r → (∀ l, l < k → P l < K) → (k < r → K ≤ P k) → k = kerR p R K x ∧ ∀ i j, i < R - k → j < R → G (k + i) (K + j) = (kerS p R K x).G i j := fun r k P G h h1 h2 h3 => by
    subst hqp
    obtain ⟨e1, -⟩ := bes12_split hq h h1 h2 h3
    obtain ⟨-, -, e4⟩ := bes12_ker hq h h1 h2 h3
    exact ⟨e1, e4⟩
  obtain ⟨kr, hLd⟩ : ∃ kr, kr = kerR p R K x := ⟨_, rfl⟩
  obtain ⟨S, hS⟩ : ∃ S, S = (kerS p R K x).G := ⟨_, rfl⟩
  rw [← hLd, ← hS] at hL ⊢
  obtain ⟨L, hLR⟩ : ∃ L, L = R - kr := ⟨_, rfl⟩
  rw [← hLR]
  have hsp := fun W (r : Nat) (P : Nat → Nat) v h1 h2 h3 => split12_any r K h1 (by omega) P v W h2 h3
  have hbx0 := box_mat w (.int .i64 R) (.int .i64 K) (.slice a (R * K) cap) 34
  have hH : Has (w.alloc (.cells #[.int .i64 R, .int .i64 K, .slice a (R * K) cap] 34)) [(_, _), (_, _), (_, _)] := ⟨hbx0.2.1, hbx0.2.2.1, hbx0.2.2.2, trivial⟩
  have hal : Below (w.alloc (.cells #[.int .i64 R, .int .i64 K, .slice a (R * K) cap] 34)).heap.size (w.alloc (.cells #[.int .i64 R, .int .i64 K, .slice a (R * K) cap] 34)) ((w.alloc (.cells #[.int .i64 R, .int .i64 K, .slice a (R * K) cap] 34)).alloc (.cells #[.int .i64 0, .int .i64 0, .slice none 0 0] 34)) := (Below.refl _ _).alloc (Nat.le_refl _) _
  have h3 := three_cells (w.alloc (.cells #[.int .i64 R, .int .i64 K, .slice a (R * K) cap] 34)) (.int .i64 0) (.int .i64 0) (.slice none 0 0) 34
  rw [show (w.alloc (.cells #[.int .i64 R, .int .i64 K, .slice a (R * K) cap] 34)).heap.size = w.heap.size + 1 by simp] at h3
  have r0 := h3 0 _ rfl
  have r1 := h3 1 _ rfl
  have r2 := h3 2 _ rfl
  obtain ⟨i0, hi, hz0, hz1, hz2⟩ := info_parts info12s
  have HI := Lib.hid (And.intro hi (And.intro hz0 (And.intro hz1 hz2)))
  have H0 := Lib.hid (Has.below hH hal)
  have G0 := Lib.hid (stage hbx0.1 hbx0.1.size hal)
  have HR0 := Lib.hid (And.intro r0 (And.intro r1 r2))
  have HC := Lib.hid hc
  have HBS := Lib.hid hbs
  have HSP := Lib.hid hsp
  have HL := Lib.hid hL
  have HRD := Lib.hid hr
  have HQP := Lib.hid hqp
  clear hc hbs hsp hL hr hH hbx0 hp hal h3 r0 r1 r2 hqp hq hLd hS hi hz0 hz1 hz2
  go_enter Try.func89, Try.ntmps89
  go_wp2_with fail
  refine (HC.out _).mono ?_
  rintro e w1 ⟨rfl, hb1⟩
  have G1 := Lib.hid (stage G0.out.1 G0.out.2 hb1)
  have H1 := Lib.hid (H0.out.below hb1)
  have HR1 := Lib.hid (And.intro (And.intro (cell_stays hb1 HR0.out.1.1) (froz_stays hb1 HR0.out.1.1 HR0.out.1.2)) (And.intro (And.intro (cell_stays hb1 HR0.out.2.1.1) (froz_stays hb1 HR0.out.2.1.1 HR0.out.2.1.2)) (And.intro (cell_stays hb1 HR0.out.2.2.1) (froz_stays hb1 HR0.out.2.2.1 HR0.out.2.2.2))))
  clear hb1
  obtain ⟨x0, x1, x2, -⟩ := H1.out
  dsimp only at x0 x1 x2
  have RD := Lib.hid (HRD.out.below G1.out.1)
  have hwp : IntKind.i64.wrap p = p := IntWalk.i64_in _ (by omega)
  go_wp2_with fail
  refine (HBS.out w1 RD.out).mono ?_
  rintro e w6 ⟨gb, B, O, C', r, P, G, pa, pc, rfl, hrd, hrr, hgb6, -⟩
  have HRDS := Lib.hid hrd
  have HRR := Lib.hid hrr
  have y1 := cell_stays hrr.below x1
  clear hrd hrr x0 x1 x2
  have hrR := HRDS.out.le
  go_wp2_with fail
  refine (HSP.out w6 r P (.slice pa r pc) (by omega) HRR.out.piv (fun i hi => by have := HRDS.out.lt i hi; omega)).mono ?_
  rintro e w7 ⟨k, rfl, k1, k2, k3, hb7⟩
  obtain ⟨rfl, hker⟩ := HL.out r k P G HRDS.out k1 k2 k3
  have HKE := Lib.hid hker
  have HB7 := Lib.hid (HRR.out.below.trans (hb7.mono HRR.out.below.size))
  have hgr := HRR.out.grid.below hb7
  have HG := Lib.hid hgr
  have hkR : k ≤ R := by omega
  have hgb7 := Nat.lt_of_lt_of_le hgb6 hb7.size
  have hcl := CutL.start (k := k) (K := K) HG.out HB7.out.size hgb7
  have HCL := Lib.hid hcl
  clear hb7 hker k2 k3 hgr hcl hgb6 y1
  go_wp2_with fail
  go_loopw [10, 11] (fun bv iv wr => ∃ n i : Nat, i = k + n ∧ n ≤ L ∧ iv = .int .i64 i ∧ CutL w7 wr w1.heap.size w7.heap.size gb R K k n bv B O C' G) (fun _ iv _ => R - (intOf iv).toNat)
  case atStart => exact ⟨0, k, rfl, by omega, rfl, HCL.out⟩
  case round =>
    clear HCL
    obtain ⟨n, i, hi, n1, rfl, hrel⟩ := hrel
    have hbel := HB7.out.trans (hrel.below.mono (Nat.le_refl _))
    obtain ⟨x0, x1, -⟩ := H1.out.below hbel
    dsimp only at x0 x1
    obtain ⟨va, vc, rfl⟩ := own_slice hrel.own
    have HREL := Lib.hid hrel
    have HB := Lib.hid hbel
    have HIK := Lib.hid hi
    clear hrel hbel
    by_cases hn : n < L
    · have hiR : i < R := by omega
      clear hi
      obtain ⟨c1, c2⟩ := HREL.out.grid.cells i hiR
      rw [Nat.zero_add] at c1
      have hcap := HREL.out.grid.caps i hiR
      have g5 : (0 : Int) ≤ (i : Int) := by omega
      have g6 : (i : Int) < (R : Int) := by omega
      have hlen : K + R - K = R := Nat.add_sub_cancel_left K R
      have hown := HREL.out.drew.own
      have hsz := HREL.out.size
      go_wp2_with fail
      have g7 : (K : Int) ≤ (K : Int) + (R : Int) := by omega
      have g8 : ¬ (C' i = K) := by omega
      have hnews := one_cell wr.drew (.slice (some ⟨B i, O i + K, none⟩) R (C' i - K)) 45
      go_region_law (refine step_append_lies _ rfl (.tmp 37) (.tmp 45) 100 rfl w7.heap.size 45 i0 (.slice none 0 0) 1 24 Try.underlying100 HI.out.1 HI.out.2.1 HI.out.2.2.1 HI.out.2.2.2 rfl (by decide) (.slice va n vc) n _ (by simp [Act.eval, Act.put]) (hown.alloc _) ⟨wr.heap.size, 0, none⟩ 1 1 [.slice (some ⟨B i, O i + K, none⟩) R (C' i - K)] (by simp [Act.eval, Act.put]) rfl hnews (by intro u hu; simp at hu; subst hu; rfl) (by decide) (by unfold maxLen; omega) (by omega) (by simp; omega) _ rfl ?_; intro g cap w8 o8 gg8 o9 o10)
      all_goals
        have hpv := HREL.out.drew.push (by rw [← HIK.out]; exact o8) gg8
        have HPV := Lib.hid hpv
        clear hown o8 gg8 o9 o10 hpv hnews
        try clear Q
        go_wp2_with fail
        go_roundw
        case rel => exact ⟨n + 1, i + 1, by have := HIK.out; omega, by omega, by go_num, HPV.out⟩
        case measure => simp [intOf]; omega
    · obtain rfl : L = n := by omega
      obtain rfl : i = R := by omega
      clear hi
      have hmx := matrix12_cut HREL.out (show k + L ≤ i by omega) (by omega) (fun i' j hi' hj => by have := HRDS.out.res (k + i') (K + j) (by omega) (by omega); rw [← HQP.out] at this; omega)
      have HMX := Lib.hid hmx
      have HLR := Lib.hid hLR
      have hL64 : L ≤ 64 := by omega
      clear hmx hLR
      go_wp2_with fail
      refine HMX.out.mono ?_
      rintro e w9 ⟨v9, rfl, ho, hb9⟩
      obtain ⟨a9, c9, rfl⟩ := ho.slice
      have HB9 := Lib.hid (HB.out.trans (hb9.mono HB.out.size))
      have hco := ho.congr (Y := fun t => small (S (t / i) (t % i))) fun t ht => by
        have hR0 : 0 < i := by rcases Nat.eq_zero_or_pos i with e | e; · subst e; omega
                               · exact e
        show small (G (k + t / i) (K + t % i)) = small _
        rw [HKE.out (t / i) (t % i) (by rw [← HLR.out]; exact Nat.div_lt_of_lt_mul (by rw [Nat.mul_comm]; exact ht)) (Nat.mod_lt _ hR0)]
      have HO := Lib.hid hco
      clear ho hb9 hco x0 x1
      have s0 := cell_stays HB9.out HR1.out.1.1
      have s1 := froz_stays HB9.out HR1.out.1.1 HR1.out.1.2
      have s2 := cell_stays HB9.out HR1.out.2.1.1
      have s3 := froz_stays HB9.out HR1.out.2.1.1 HR1.out.2.1.2
      have s4 := cell_stays HB9.out HR1.out.2.2.1
      have s5 := froz_stays HB9.out HR1.out.2.2.1 HR1.out.2.2.2
      have hlt : w.heap.size + 1 < wr.heap.size := by
        have h1 := World.block_lt_of_cell? w1 _ HR1.out.1.1
        have h2 := HB.out.size
        dsimp only at h1; omega
      have hLR : L * i ≤ 4096 := Nat.mul_le_mul hL64 hR
      have hb8 : Below w.heap.size w w9 := G1.out.1.trans (HB9.out.mono G1.out.2)
      have hb9 := ((hb8.setCell (p := ⟨w.heap.size + 1, 0, none⟩) (Nat.le_succ w.heap.size) (.int .i64 L)).setCell (p := ⟨w.heap.size + 1, 1, none⟩) (Nat.le_succ w.heap.size) (.int .i64 i)).setCell (p := ⟨w.heap.size + 1, 2, none⟩) (Nat.le_succ w.heap.size) (.slice a9 (L * i) c9)
      have ho := (((HO.out.set (a := ⟨w.heap.size + 1, 0, none⟩) hlt (.int .i64 L)).set (a := ⟨w.heap.size + 1, 1, none⟩) hlt (.int .i64 i)).set (a := ⟨w.heap.size + 1, 2, none⟩) hlt (.slice a9 (L * i) c9)).mono (base' := w.heap.size) (by omega)
      have HB10 := Lib.hid hb9
      have HO9 := Lib.hid ho
      clear hb8 hb9 ho
      go_wp2_with fail
      refine bodyPost_ret (v := .tuple #[.agg #[.int .i64 L, .int .i64 i, .slice a9 (L * i) c9], .int .i64 0]) ?_ rfl ⟨_, rfl, HO9.out, HB10.out⟩
      simp [results, Try.results89, go_sem, s0, s2, s4]
end Go.Proofs.Ytdlpemmoobbgnaa

namespace Go.Proofs.Ytdlpemmoobbgnaa
open Go.RowKit

theorem mk_room (n : Nat) (hn : n ≤ 64) (u : World) : (Instr.makeSlice 32 (.int .i64 0) (.int .i64 n)).run Try.prog u =
    .ok (.slice (some ⟨u.heap.size, 0, none⟩) 0 n) (u.alloc (.cells (madeCells #[.bool false, .slice none 0 0] (n * 2)) 56)) := by
  obtain ⟨i0, hi, hz0, hz1, hz2⟩ := info_parts infoI
  have h := run_make (P := Try.prog) u 32 56 i0 (.agg #[.bool false, .slice none 0 0]) Try.underlying32 hi hz0 .i64 .i64 (0 : Int) (n : Int) (by omega) (by omega) (by rw [hz2]; omega) (by omega)
  rw [Int.toNat_natCast, Int.toNat_zero] at h
  simpa only [hz1, Value.cells] using h
theorem room_own (w : World) (n : Nat) (hn : n ≤ 64) : (w.alloc (.cells (madeCells #[.bool false, .slice none 0 0] (n * 2)) 56)).ownsRow w.heap.size 56 2 (.slice (some ⟨w.heap.size, 0, none⟩) 0 n) 0 [] := by
  refine ⟨rfl, Or.inr ⟨_, n, _, rfl, Nat.le_refl _, heap_alloc_new w _, Nat.zero_le _, by unfold maxLen; omega, ?_, ?_⟩⟩
  · simp [madeCells]; try omega
  · rfl

/-- the state of Solve: rest lies in the block rb -/
structure So12 (w wr : World) (R K : Int) (base rb gb m L r : Nat) (B O C : Nat → Nat) (G : Nat → Nat → Int) (pv : Value) (P : Nat → Nat) (f : Nat → Int) : Prop where
  x0 : wr.cell? ⟨w.heap.size, 0, none⟩ = some (.int .i64 R)
  x1 : wr.cell? ⟨w.heap.size, 1, none⟩ = some (.int .i64 K)
  below : Below w.heap.size w wr
  grid : GridAt .i64 wr base gb 0 m L B O C G
  piv : RdA .i64 wr pv r fun k => (P k : Int)
  ap : pv.ownBlock = none ∨ pv.ownBlock ≠ some rb
  row : RowAt .i64 wr rb 0 L f
  offB : ∀ i, i < m → B i ≠ rb
  offG : gb ≠ rb
  ge : w.heap.size + 1 ≤ rb
  lt : rb < wr.heap.size

section
variable {w wr w' : World} {R K : Int} {base rb gb m L r : Nat} {B O C : Nat → Nat} {G : Nat → Nat → Int} {pv : Value} {P : Nat → Nat} {f f' : Nat → Int}
theorem So12.put (h : So12 w wr R K base rb gb m L r B O C G pv P f) (hg : wr.grownBy w' (some rb)) (hr : RowAt .i64 w' rb 0 L f') : So12 w w' R K base rb gb m L r B O C G pv P f' := by
  have hge := h.ge
  exact ⟨hg.cell h.x0 (by simp; omega), hg.cell h.x1 (by simp; omega), h.below.grown hg h.below.size (fun k hk => by injection hk with hk; omega),
    h.grid.grown hg (fun e => h.offG (Option.some.inj e)) (fun i hi e => h.offB i hi (Option.some.inj e)), RdA.grownV h.piv hg h.ap, h.ap, hr, h.offB, h.offG, hge, Nat.lt_of_lt_of_le h.lt hg.size⟩
theorem So12.same (h : So12 w wr R K base rb gb m L r B O C G pv P f) (hb : Below wr.heap.size wr w') : So12 w w' R K base rb gb m L r B O C G pv P f :=
  h.put (gb_below hb _) (h.row.below hb)
theorem So12.congr (h : So12 w wr R K base rb gb m L r B O C G pv P f) (e : ∀ i, i < L → f i = f' i) : So12 w wr R K base rb gb m L r B O C G pv P f' := { h with row := h.row.congr e }
theorem So12.start {t : TypeId} (x0 : wr.cell? ⟨w.heap.size, 0, none⟩ = some (.int .i64 R)) (x1 : wr.cell? ⟨w.heap.size, 1, none⟩ = some (.int .i64 K)) (hb : Below w.heap.size w wr) (hg : GridAt .i64 wr base gb 0 m L B O C G)
    (hp : RdA .i64 wr pv r fun k => (P k : Int)) (hlt : ∀ b, pv.ownBlock = some b → b < wr.heap.size) (hs : w.heap.size + 1 ≤ wr.heap.size) (hgb : gb < wr.heap.size) :
    So12 w (wr.alloc (.cells (madeCells #[.int .i64 0] L) t)) R K base wr.heap.size gb m L r B O C G pv P (fun _ => 0) := by
  have hb4 : Below wr.heap.size wr (wr.alloc (.cells (madeCells #[.int .i64 0] L) t)) := (Below.refl _ _).alloc (Nat.le_refl _) _
  refine ⟨cell_stays hb4 x0, cell_stays hb4 x1, hb.trans (hb4.mono (by omega)), hg.below hb4, hp.grownV (gb_below hb4 none) ?_, ?_, (CellsAt.row (f := fun _ => 0) (CellsAt.made wr _ L t)), fun i hi => by have := hg.lt i hi; omega, by omega, hs, by simp⟩
  · cases pv.ownBlock with
    | none => exact Or.inl rfl
    | some b => exact Or.inr (by simp)
  · cases hb : pv.ownBlock with
    | none => exact Or.inl rfl
    | some b => right; intro e; injection e with e; have := hlt b hb; omega
end

/-- the state while the solution is laid down: j places are looked at -/
structure Sx12 (w wr : World) (B0 : Nat) (R K : Int) (rb L n : Nat) (v : Value) (X : Nat → Raw) (f : Nat → Int) : Prop where
  x0 : wr.cell? ⟨w.heap.size, 0, none⟩ = some (.int .i64 R)
  x1 : wr.cell? ⟨w.heap.size, 1, none⟩ = some (.int .i64 K)
  below : Below w.heap.size w wr
  row : RowAt .i64 wr rb 0 L f
  own : OwnF wr B0 v n X
  size : B0 ≤ wr.heap.size
  rb0 : rb < B0
  w0 : w.heap.size < B0

section
variable {w wr w6 w8 : World} {B0 rb L n : Nat} {R K : Int} {v v' : Value} {X : Nat → Raw} {f : Nat → Int}
theorem Sx12.start {base gb m r : Nat} {B O C : Nat → Nat} {G : Nat → Nat → Int} {pv : Value} {P : Nat → Nat} (h : So12 w wr R K base rb gb m L r B O C G pv P f) (q : Nat) (hq : q ≤ 64) (X : Nat → Raw) :
    Sx12 w (wr.alloc (.cells (madeCells #[.bool false, .slice none 0 0] (q * 2)) 56)) wr.heap.size R K rb L 0 (.slice (some ⟨wr.heap.size, 0, none⟩) 0 q) X f := by
  have hb4 : Below wr.heap.size wr (wr.alloc (.cells (madeCells #[.bool false, .slice none 0 0] (q * 2)) 56)) := (Below.refl _ _).alloc (Nat.le_refl _) _
  exact ⟨cell_stays hb4 h.x0, cell_stays hb4 h.x1, h.below.trans (hb4.mono h.below.size), h.row.below hb4, ⟨fun _ => .slice none 0 0, room_own wr q hq, fun i hi => absurd hi (by omega)⟩, hb4.size, h.lt, by have := h.ge; have := h.lt; omega⟩
theorem Sx12.app (h : Sx12 w wr B0 R K rb L n v X f) (hb : Below wr.heap.size wr w6) (u0 u1 : Value) : ∃ M : Nat → Value,
    (w6.alloc (.cells #[u0, u1] 56)).ownsRow B0 56 2 v n (flatI (fun i => .bool (X i).neg) M n) ∧ (∀ i, i < n → FrA .u64 22 (w6.alloc (.cells #[u0, u1] 56)) B0 (M i) (X i).n (X i).f ∧ Words (X i).n (X i).f) ∧
    (∀ j u, [u0, u1][j]? = some u → (w6.alloc (.cells #[u0, u1] 56)).cell? (Addr.add ⟨w6.heap.size, 0, none⟩ j) = some u) ∧ B0 ≤ (w6.alloc (.cells #[u0, u1] 56)).heap.size := by
  have b2 : Below w6.heap.size w6 (w6.alloc (.cells #[u0, u1] 56)) := (Below.refl _ _).alloc (Nat.le_refl _) _
  have b3 := hb.trans (b2.mono hb.size)
  obtain ⟨M, o1, o2⟩ := h.own.below b3
  refine ⟨M, o1, o2, fun j u hj => ?_, Nat.le_trans h.size b3.size⟩
  rw [Addr.add_lit, cell_of_row _ _ _ _ _ _ (heap_alloc_new w6 _)]
  simpa using hj
theorem Sx12.push (h : Sx12 w wr B0 R K rb L n v X f) (hb : Below wr.heap.size wr w6) {ad : Option Addr} {cd : Nat} {y : Int} (y0 : 0 ≤ y) (y1 : y < 2147483648) (hr : FrA .u64 22 w6 wr.heap.size (.slice ad (w1 y) cd) (w1 y) (fun _ => y)) (hx : X n = small y) {M : Nat → Value}
    (o1 : (w6.alloc (.cells #[.bool false, .slice ad (w1 y) cd] 56)).ownsRow B0 56 2 v n (flatI (fun i => .bool (X i).neg) M n))
    (o2 : ∀ i, i < n → FrA .u64 22 (w6.alloc (.cells #[.bool false, .slice ad (w1 y) cd] 56)) B0 (M i) (X i).n (X i).f ∧ Words (X i).n (X i).f)
    (g1 : w8.ownsRow B0 56 2 v' (n + 1) (flatI (fun i => .bool (X i).neg) M n ++ [.bool false, .slice ad (w1 y) cd])) (g2 : (w6.alloc (.cells #[.bool false, .slice ad (w1 y) cd] 56)).grownBy w8 v.ownBlock) :
    Sx12 w w8 B0 R K rb L (n + 1) v' X f := by
  obtain ⟨w7, h7⟩ : ∃ w7, w7 = w6.alloc (.cells #[.bool false, .slice ad (w1 y) cd] 56) := ⟨_, rfl⟩
  have b67 : Below w6.heap.size w6 w7 := by rw [h7]; exact (Below.refl _ _).alloc (Nat.le_refl _) _
  have b7 := hb.trans (b67.mono hb.size)
  rw [← h7] at g2 o1 o2
  have hp := OwnF.push (X := X) (r := small y) o1 o2 ((hr.below b67).mono h.size) (fun i hi => ⟨y0, by show y ≤ _; omega⟩) (show false = (small y).neg from rfl) g1 g2
  have hp := hp.congr (Y := X) fun i hi => by
    by_cases e : i = n
    · rw [if_pos e, e, hx]
    · rw [if_neg e]
  have hne : ∀ b, b < B0 → some b ≠ v.ownBlock := fun b hb e => by
    rcases own_block o1 hb with e' | e'
    · rw [e'] at e; simp at e
    · exact e' e.symm
  have g17 : wr.grownBy w8 v.ownBlock := gb_trans (gb_below b7 _) g2
  have hw0 := h.w0
  exact ⟨g17.cell h.x0 (hne _ hw0), g17.cell h.x1 (hne _ hw0), h.below.grown g17 h.below.size (fun k hk => by have := (o1.lt k hk).1; omega), h.row.gb g17 (hne _ h.rb0), hp, Nat.le_trans h.size g17.size, h.rb0, hw0⟩
end

set_option maxHeartbeats 1000000 in
theorem Solve12_bad (r c : Int) (p : Int) (hp : 0 ≤ p) (s : Value) (n : Nat) (x : Nat → Raw) (sb : Value) (nb : Nat) (b : Nat → Raw) (w : World) (hr : RdL w s n x) (hrb : RdL w sb nb b) (he : openE r c n p ((nb : Int) == c) ≠ 0) :
    Calls Try.prog 90 #[.agg #[.int .i64 r, .int .i64 c, s], sb, .int .u64 p] w fun e w' =>
      e = .returned (.tuple #[.slice none 0 0, .int .i64 (openE r c n p ((nb : Int) == c))]) ∧ Below w.heap.size w w' := by
  obtain ⟨a, cap, rfl, hl⟩ := hr.slice
  obtain ⟨ab, capb, rfl, hnb⟩ := hrb.slice
  have hc := fun W => checks_any r c a n cap hl 2 (by omega) false W
  have hbx0 := box_mat w (.int .i64 r) (.int .i64 c) (.slice a n cap) 34
  have x1 := hbx0.2.2.1
  have G0 := Lib.hid (And.intro hbx0.1 hbx0.1.size)
  have hp2 : primeB 2 = true := by decide
  by_cases hs : soundB r c n = true
  · have e0 : openE r c n 2 (!(false && (r != c))) = 0 := by unfold openE; rw [if_pos hs, show (!(false && (r != c))) = true from rfl, if_pos rfl, if_pos hp2]
    rw [e0] at hc
    have HC := Lib.hid hc
    by_cases hf : (nb : Int) = c
    · have hfb : ((nb : Int) != c) = false := by rw [bne_eq_false_iff_eq]; exact hf
      have hfb2 : ((nb : Int) == c) = true := beq_iff_eq.2 hf
      have hpr : primeB p = false := by
        cases h : primeB p with
        | false => rfl
        | true => exact absurd (by unfold openE; rw [if_pos hs, hfb2, if_pos rfl, if_pos h]) he
      have hE : openE r c n p ((nb : Int) == c) = 9 := by unfold openE; rw [if_pos hs, hfb2, if_pos rfl, hpr]; rfl
      rw [hE]
      have hg := fun W => good12_any p hp W
      rw [hpr] at hg
      have HG := Lib.hid hg
      clear hr hrb he hbx0 hs hf hc hg hE hfb2 hpr hp2 e0
      go_enter Try.func90, Try.ntmps90
      go_wp2_with fail
      refine (HC.out _).mono ?_
      rintro e w1 ⟨rfl, hb1⟩
      have G1 := Lib.hid (stage G0.out.1 G0.out.2 hb1)
      have x1 := cell_stays hb1 x1
      clear hb1
      go_wp2_with fail
      refine (HG.out _).mono ?_
      rintro e w2 ⟨rfl, rfl⟩
      go_wp2_with fail
      go_ret2
      exact ⟨rfl, G1.out.1⟩
    · have hfb : ((nb : Int) != c) = true := by rw [bne_iff_ne]; exact hf
      have hfb2 : ((nb : Int) == c) = false := beq_eq_false_iff_ne.2 hf
      have hE : openE r c n p ((nb : Int) == c) = 2 := by unfold openE; rw [if_pos hs, hfb2]; rfl
      rw [hE]
      clear hr hrb he hbx0 hs hf hc hE hfb2 hp2 e0
      go_enter Try.func90, Try.ntmps90
      go_wp2_with fail
      refine (HC.out _).mono ?_
      rintro e w1 ⟨rfl, hb1⟩
      have G1 := Lib.hid (stage G0.out.1 G0.out.2 hb1)
      have x1 := cell_stays hb1 x1
      clear hb1
      go_wp2_with fail
      go_ret2
      exact ⟨rfl, G1.out.1⟩
  · have e0 : openE r c n 2 (!(false && (r != c))) = 1 := by unfold openE; rw [if_neg hs]
    have hE : openE r c n p ((nb : Int) == c) = 1 := by unfold openE; rw [if_neg hs]
    rw [e0] at hc
    rw [hE]
    have HC := Lib.hid hc
    clear hr hrb he hbx0 hs hc hE hp2 e0 x1
    go_enter Try.func90, Try.ntmps90
    go_wp2_with fail
    refine (HC.out _).mono ?_
    rintro e w1 ⟨rfl, hb1⟩
    have G1 := Lib.hid (stage G0.out.1 G0.out.2 hb1)
    clear hb1
    go_wp2_with fail
    go_ret2
    exact ⟨rfl, G1.out.1⟩
end Go.Proofs.Ytdlpemmoobbgnaa

namespace Go.Proofs.Ytdlpemmoobbgnaa
open Go.RowKit

set_option maxHeartbeats 1000000 in
set_option maxRecDepth 100000 in
theorem Solve12_good (R K : Nat) (p : Int) (hR : R ≤ 64) (hK : K ≤ 64) (hp : primeB p = true) (s : Value) (x : Nat → Raw) (sb : Value) (b : Nat → Raw) (w : World) (hr : RdL w s (R * K) x) (hrb : RdL w sb K b) :
    Calls Try.prog 90 #[.agg #[.int .i64 R, .int .i64 K, s], sb, .int .u64 p] w fun e w' => ∃ v, e = .returned (.tuple #[v, .int .i64 (if anyNZ (sol1 p R K x b) K = true then 6 else 0)]) ∧
      (anyNZ (sol1 p R K x b) K = true → v = .slice none 0 0) ∧ (anyNZ (sol1 p R K x b) K = false → OwnF w' w.heap.size v R (fun t => small (sol3 p R K x b t))) ∧ Below w.heap.size w w' := by
  obtain ⟨q, hqp, hq, hz⟩ := prime_nat hp
  obtain ⟨p0, p1⟩ := primeB_bd hp
  obtain ⟨a, cap, rfl, hl⟩ := hr.slice
  obtain ⟨ab, capb, rfl, hnb⟩ := hrb.slice
  have hc := fun W => checks_any R K a (R * K) cap hl 2 (by omega) false W
  rw [show openE R K (R * K) 2 (!(false && ((R : Int) != K))) = 0 from openE_good hR hK rfl (by decide)] at hc
  have hgd := fun W => good12_any p (by omega) W
  rw [hp] at hgd
  have hbs := fun W h => beside12_any q p hqp.symm hq p1 R K hR hK (.slice a (R * K) cap) x W h
  have hL : ∀ (r : Nat) P G, RdS q R (K + R) (K + R) r r r 0 P (besG p K x) G → (∀ j, j < K → clr12 p G P (sol0 p K b) r j = sol1 p R K x b j) ∧ (∀ j, j < R → (p - clr12 p G P (sol0 p K b) r (K + j)) % p = sol3 p R K x b j) := fun r P G h => by
    subst hqp
    exact bes12_sol hq h
  obtain ⟨s1, hs1⟩ : ∃ s1, s1 = sol1 p R K x b := ⟨_, rfl⟩
  obtain ⟨s3, hs3⟩ : ∃ s3, s3 = sol3 p R K x b := ⟨_, rfl⟩
  rw [← hs1, ← hs3] at hL
  rw [← hs1, ← hs3]
  obtain ⟨E5, hE5⟩ : ∃ E5 : Int, E5 = if anyNZ s1 K = true then 6 else 0 := ⟨_, rfl⟩
  rw [← hE5]
  have HE5 := Lib.hid hE5
  clear hE5
  have m1 := mk_12i (K + R) (by omega)
  have m2 := mk_room R (by omega)
  obtain ⟨i0, hi, hz0, hz1, hz2⟩ := info_parts infoI
  have HI := Lib.hid (And.intro hi (And.intro hz0 (And.intro hz1 hz2)))
  have hbx0 := box_mat w (.int .i64 R) (.int .i64 K) (.slice a (R * K) cap) 34
  have hH : Has (w.alloc (.cells #[.int .i64 R, .int .i64 K, .slice a (R * K) cap] 34)) [(_, _), (_, _), (_, _)] := ⟨hbx0.2.1, hbx0.2.2.1, hbx0.2.2.2, trivial⟩
  have hs0b : ∀ c, c < K + R → 0 ≤ sol0 p K b c ∧ sol0 p K b c < p := fun c _ => by
    unfold sol0; split
    · exact resid_bd _ p (by omega)
    · omega
  have hsz0 : (w.alloc (.cells #[.int .i64 R, .int .i64 K, .slice a (R * K) cap] 34)).heap.size = w.heap.size + 1 := by simp
  have H0 := Lib.hid hH
  have G0 := Lib.hid (And.intro hbx0.1 (Nat.le_of_eq hsz0.symm))
  have HC := Lib.hid hc
  have HGD := Lib.hid hgd
  have HBS := Lib.hid hbs
  have HL := Lib.hid hL
  have HRD := Lib.hid hr
  have HRB := Lib.hid hrb
  have HQP := Lib.hid hqp
  have HS0B := Lib.hid hs0b
  clear hc hgd hbs hL hr hrb hH hbx0 hp hqp hq hs1 hs3 hi hz0 hz1 hz2 hs0b hsz0
  go_enter Try.func90, Try.ntmps90
  go_wp2_with fail
  refine (HC.out _).mono ?_
  rintro e wA ⟨rfl, hb1⟩
  have G1 := Lib.hid (And.intro (G0.out.1.trans (hb1.mono (Nat.le_of_succ_le G0.out.2))) (Nat.le_trans G0.out.2 hb1.size))
  have H1 := Lib.hid (H0.out.below hb1)
  clear hb1
  obtain ⟨x0, x1, x2, -⟩ := H1.out
  dsimp only at x0 x1 x2
  have RD := Lib.hid (HRD.out.below G1.out.1)
  have hwp : IntKind.i64.wrap p = p := IntWalk.i64_in _ (by omega)
  have hnc : ((K : Int) != (K : Int)) = false := by simp
  go_wp2_with fail
  refine (HGD.out _).mono ?_
  rintro e w2 ⟨rfl, rfl⟩
  go_wp2_with fail
  refine (HBS.out _ RD.out).mono ?_
  rintro e w6 ⟨gb, B, O, C', r, P, G, pa, pc, rfl, hrd, hrr, hgb6, hpb6⟩
  have HRDS := Lib.hid hrd
  have HRR := Lib.hid hrr
  have y0 := cell_stays hrr.below x0
  have y1 := cell_stays hrr.below x1
  have hb6 : Below w.heap.size w w6 := G1.out.1.trans (hrr.below.mono (Nat.le_of_succ_le G1.out.2))
  have hs6 : w.heap.size + 1 ≤ w6.heap.size := Nat.le_trans G1.out.2 hrr.below.size
  clear hrd x0 x1 x2
  have hrR := HRDS.out.le
  have e1 : (K : Int) + (R : Int) = ((K + R : Nat) : Int) := by omega
  have e2 : IntKind.i64.wrap ((K + R : Nat) : Int) = ((K + R : Nat) : Int) := IntWalk.i64_in _ (by omega)
  obtain ⟨L, hLd⟩ : ∃ L, L = K + R := ⟨_, rfl⟩
  rw [← hLd] at m1 e1 e2 HS0B HRDS HRR hrr
  have HLD := Lib.hid hLd
  have hLa : L ≤ K + R := by omega
  have hLb : K + R ≤ L := by omega
  clear hLd
  have hst := So12.start (t := 3) y0 y1 hb6 HRR.out.grid HRR.out.piv hpb6 hs6 hgb6
  have HST := Lib.hid hst
  clear hst hrr hb6
  go_wp2_with fail
  obtain ⟨rb, hrb⟩ : ∃ rb, rb = w6.heap.size := ⟨_, rfl⟩
  rw [← hrb] at HST ⊢
  generalize w6.alloc (.cells (madeCells #[.int .i64 0] L) 3) = W3 at HST ⊢
  clear hrb hs6 hgb6 y0 y1
  go_loopw [14] (fun iv wr => ∃ j : Nat, j ≤ K ∧ iv = .int .i64 j ∧ So12 w wr R K wA.heap.size rb gb R L r B O C' G (.slice pa r pc) P (fun c => if c < j then resid (b c) p else 0)) (fun iv _ => K - (intOf iv).toNat)
  case atStart => exact ⟨0, by omega, rfl, HST.out.congr fun i _ => (if_neg (by omega)).symm⟩
  case round =>
    clear HST
    obtain ⟨j, j1, rfl, hrel⟩ := hrel
    have HREL := Lib.hid hrel
    clear hrel
    by_cases hj : j < K
    · obtain ⟨c3, c4⟩ := HREL.out.row.get0 (i := j) (by omega) (x := 0) (if_neg (by omega))
      obtain ⟨_, _, eb, _, _, hcells⟩ := HRB.out
      injection eb with eb1 eb2 eb3
      obtain ⟨bb, bo, hab, hc⟩ := hcells (by omega)
      subst eb1
      subst hab
      subst eb3
      obtain ⟨mm, d1, d2, d3⟩ := hc j hj
      obtain ⟨am, cm, rfl, -⟩ := d3.1
      have d1 := cell_stays HREL.out.below d1
      have d2 := cell_stays HREL.out.below d2
      have hrd : RdI wr (.agg #[.bool (b j).neg, .slice am (b j).n cm]) (b j) := ⟨_, rfl, d3.below HREL.out.below⟩
      have HRD := Lib.hid hrd
      have hlL : j < L := by omega
      clear hrd hc d3
      have g5 : (0 : Int) ≤ (j : Int) := by omega
      have g6 : (j : Int) < (K : Int) := by omega
      have g7 : (j : Int) < (L : Int) := by omega
      go_wp2_with (go_at_call 119; refine (Residue12_any p (by omega) p1 _ (b j) _ HRD.out).mono ?_; rintro e w6 ⟨rfl, hb6⟩; have k1 := cell_stays hb6 c3; have k2 := froz_stays hb6 c3 c4)
      have h6 := HREL.out.same hb6
      have HPUT := Lib.hid ((h6.put (gb_set w6 ⟨rb, j, none⟩ (.int .i64 (resid (b j) p))) (h6.row.set0 hlL (resid (b j) p))).congr (f' := fun c => if c < j + 1 then resid (b c) p else 0) fun c _ => by
        by_cases e : c = j
        · rw [if_pos e, if_pos (by omega), e]
        · rw [if_neg e]
          by_cases e' : c < j
          · rw [if_pos e', if_pos (by omega)]
          · rw [if_neg e', if_neg (by omega)])
      clear h6
      go_roundw
      case rel => exact ⟨j + 1, by omega, by go_num, HPUT.out⟩
      case measure => simp [intOf]; omega
    · obtain rfl : K = j := by omega
      have hrel := HREL.out.congr (f' := clr12 p G P (sol0 p K b) 0) fun c _ => rfl
      have HREL := Lib.hid hrel
      clear hrel
      go_wp2_with fail
      go_loopw [15] (fun iv wr => ∃ i : Nat, i ≤ r ∧ iv = .int .i64 i ∧ So12 w wr R K wA.heap.size rb gb R L r B O C' G (.slice pa r pc) P (clr12 p G P (sol0 p K b) i)) (fun iv _ => r - (intOf iv).toNat)
      case atStart => exact ⟨0, by omega, rfl, HREL.out⟩
      case round =>
        clear HREL
        obtain ⟨i, i1, rfl, hrel⟩ := hrel
        have HREL := Lib.hid hrel
        clear hrel
        by_cases hi : i < r
        · obtain ⟨pb, po, hpa, hpc⟩ := (by obtain ⟨a, cap, e, -, -, h⟩ := HREL.out.piv; injection e with e1 _ _; subst e1; exact h (by omega) : ∃ b o, pa = some ⟨b, o, none⟩ ∧ ∀ i, i < r → wr.cell? ⟨b, o + i, none⟩ = some (.int .i64 (P i : Int)))
          have e3 := hpc i hi
          obtain ⟨d, hd⟩ : ∃ d, d = P i := ⟨_, rfl⟩
          have hdL : d < L := by rw [hd]; exact HRDS.out.lt i hi
          rw [← hd] at e3
          obtain ⟨z, hz⟩ : ∃ z, z = clr12 p G P (sol0 p K b) i d := ⟨_, rfl⟩
          obtain ⟨c5, -⟩ := HREL.out.row.get0 hdL hz.symm
          obtain ⟨z0, z1⟩ := clr12_res (p := p) (by omega) (G := G) (P := P) HS0B.out i d hdL
          rw [← hz] at z0 z1
          have hiR : i < R := by omega
          obtain ⟨c6, -⟩ := HREL.out.grid.cells i hiR
          rw [Nat.zero_add] at c6
          have hof := HREL.out.offB i hiR
          have hct := HREL.out.same (Below.refl wr.heap.size wr).drew
          have htk := less12_any p z (by omega) p1 z0 (by omega) rb 0 L (B i) (O i) (C' i) L (clr12 p G P (sol0 p K b) i) (G i) (by omega) (fun e => hof e.symm) (fun c hc => clr12_res (p := p) (by omega) (G := G) (P := P) HS0B.out i c hc) (fun c hc => by rw [HQP.out]; exact HRDS.out.res i c hiR hc) _ hct.row (hct.grid.rows i hiR)
          have HTK := Lib.hid htk
          have HCT := Lib.hid hct
          have HD := Lib.hid hd
          have HZ := Lib.hid hz
          have hi0 : (0 : Int) ≤ (i : Int) := by omega
          have hi2 : (i : Int) < (r : Int) := by omega
          have hi3 : (i : Int) < (R : Int) := by omega
          have hd0 : (0 : Int) ≤ (d : Int) := by omega
          have hd1 : (d : Int) < (L : Int) := by omega
          subst hpa
          clear htk hct hd hz hof hpc
          go_wp2_with fail
          refine wp_region_still_tail 13 (by kernel_rfl) (by kernel_rfl) ?_
          simp only [List.take_succ_cons, List.take_zero, List.drop_succ_cons, List.drop_zero]
          repeat still_step
          refine wpStill_nil ?_
          change wpList _ _ _ _ _ wr.drew
          go_wp2_with fail
          refine HTK.out.mono ?_
          rintro e w6 ⟨rfl, hr6, hg6⟩
          have HP6 := Lib.hid ((HCT.out.put hg6 hr6).congr (f' := clr12 p G P (sol0 p K b) (i + 1)) fun c _ => by
            show _ = (clr12 p G P (sol0 p K b) i c + (p - clr12 p G P (sol0 p K b) i (P i) % p) * G i c) % p
            rw [HZ.out, HD.out])
          clear hr6 hg6
          go_wp2_with fail
          go_roundw
          case rel => exact ⟨i + 1, by omega, by go_num, HP6.out⟩
          case measure => simp [intOf]; omega
        · obtain rfl : r = i := by omega
          have hfin := HL.out r P G (by rw [← HLD.out]; exact HRDS.out)
          have hbd := clr12_res (p := p) (by omega) (G := G) (P := P) HS0B.out r
          generalize clr12 p G P (sol0 p K b) r = f at HREL hfin hbd
          obtain ⟨hf1, hf3⟩ := hfin
          have HF1 := Lib.hid hf1
          have HF3 := Lib.hid hf3
          have HBD := Lib.hid hbd
          have y0 := HREL.out.x0
          have hsx := Sx12.start HREL.out R hR (fun t => small (s3 t))
          have HSX := Lib.hid hsx
          have hwb := HREL.out.below.size
          clear hf1 hf3 hbd hsx HREL
          go_wp2_with fail
          obtain ⟨B0, hB0⟩ : ∃ B0, B0 = wr.heap.size := ⟨_, rfl⟩
          rw [← hB0] at HSX hwb ⊢
          generalize wr.alloc (.cells (madeCells #[.bool false, .slice none 0 0] (R * 2)) 56) = W4 at HSX ⊢
          clear hB0 y0
          go_loopw [16, 17] (fun lv jv wr => ∃ j : Nat, j ≤ L ∧ jv = .int .i64 j ∧ Sx12 w wr B0 R K rb L (j - K) lv (fun t => small (s3 t)) f ∧ (∀ c, c < j → c < K → f c = 0)) (fun _ jv _ => L - (intOf jv).toNat)
          case atStart => exact ⟨0, by omega, rfl, by rw [Nat.zero_sub]; exact HSX.out, fun c hc => absurd hc (by omega)⟩
          case round =>
            clear HSX
            obtain ⟨j, j1, rfl, hrel, hzero⟩ := hrel
            have y1 := hrel.x1
            obtain ⟨la, lc, rfl⟩ := hrel.own.slice
            have HZR := Lib.hid hzero
            have HSX := Lib.hid hrel
            clear hrel hzero
            by_cases hj : j < L
            · obtain ⟨v, hv⟩ : ∃ v, v = f j := ⟨_, rfl⟩
              obtain ⟨c7, -⟩ := HSX.out.row.get0 hj hv.symm
              obtain ⟨v0, v1⟩ := HBD.out j hj
              rw [← hv] at v0 v1
              have HV := Lib.hid hv
              clear hv
              have g5 : (0 : Int) ≤ (j : Int) := by omega
              have g7 : (j : Int) < (L : Int) := by omega
              by_cases hjK : j < K
              · have g6 : (j : Int) < (K : Int) := by omega
                have g8 : ¬ ((K : Int) ≤ (j : Int)) := by omega
                by_cases hv0 : v = 0
                · subst hv0
                  go_wp2_with fail
                  go_roundw
                  case rel => exact ⟨j + 1, by omega, by go_num, by rw [show j + 1 - K = j - K by omega]; exact HSX.out, fun c hc hcK => by
                    by_cases e : c = j
                    · rw [e]; exact HV.out.symm
                    · exact HZR.out c (by omega) hcK⟩
                  case measure => simp [intOf]; omega
                · have hvb : (v != 0) = true := by rw [bne_iff_ne]; exact hv0
                  have HA6 : Hid (anyNZ s1 K = true) := by
                    show _ = _
                    cases hh : anyNZ s1 K with
                    | true => rfl
                    | false => exact absurd (by rw [HV.out, HF1.out j hjK]; exact anyNZ_false.1 hh j hjK) hv0
                  clear hv0
                  go_wp2_with fail
                  go_ret2
                  have h56 : E5 = 6 := by rw [HE5.out, HA6.out, if_pos rfl]
                  exact ⟨_, retT rfl (by rw [h56]; rfl), fun _ => rfl, fun h => absurd (HA6.out.symm.trans h) (by decide), HSX.out.below⟩
              · have g6 : ¬ ((j : Int) < (K : Int)) := by omega
                have g8 : (K : Int) ≤ (j : Int) := by omega
                have hn64 : j - K < 64 := by omega
                have hs3 := HF3.out (j - K) (by omega)
                rw [show K + (j - K) = j by omega, ← HV.out, show p - v = -v + p * 1 by omega, Int.add_mul_emod_self_left] at hs3
                have yb0 := Int.emod_nonneg (-v) (show p ≠ 0 by omega)
                have yb1 := Int.emod_lt_of_pos (-v) (show 0 < p by omega)
                have HS3 := Lib.hid hs3
                have hpv : 0 ≤ p - v := by omega
                have hszB := HSX.out.size
                clear hs3
                go_wp2_with (first
                  | (go_at_call 103; (with_reducible refine (Of12_any (-v % p) yb0 (by omega) _).mono ?_); rintro e w6 ⟨ad, cd, rfl, o3, o4⟩; obtain ⟨M, q1, q2, q3, q4⟩ := HSX.out.app o4 (.bool false) (.slice ad (w1 (-v % p)) cd))
                  | (at_builtin; refine wpList_append_lies _ rfl _ _ 32 rfl B0 56 i0 (.agg #[.bool false, .slice none 0 0]) 2 32 Try.underlying32 HI.out.1 HI.out.2.1 HI.out.2.2.1 HI.out.2.2.2 rfl (by decide) _ _ _ rfl q1 ⟨w6.heap.size, 0, none⟩ 1 1 [.bool false, .slice ad (w1 (-v % p)) cd] rfl ?c1 q3 ?c2 ?c3 ?c4 ?c5 ?c6 _ rfl ?_))
                case c1 => rfl
                case c2 => intro u hu; simp at hu; rcases hu with rfl | rfl <;> rfl
                case c3 => decide
                case c4 => unfold maxLen; omega
                case c5 => omega
                case c6 => exact q4
                · intro g cp w8 o8 g8 _ _
                  have hN := HSX.out.push o4 yb0 (by omega) o3 (by show small (s3 (j - K)) = _; rw [HS3.out]) q1 q2 o8 g8
                  have HN := Lib.hid hN
                  clear hN o8 g8 o3 o4 q1 q2 q3 q4
                  go_wp2_with fail
                  go_roundw
                  case rel => exact ⟨j + 1, by omega, by go_num, by rw [show j + 1 - K = j - K + 1 by omega]; exact HN.out, fun c hc hcK => HZR.out c (by omega) hcK⟩
                  case measure => simp [intOf]; omega
            · obtain rfl : L = j := by omega
              have hLK : L - K = R := by omega
              have hz1 : anyNZ s1 K = false := anyNZ_false.2 fun c hc => by rw [← HF1.out c hc]; exact HZR.out c (by omega) hc
              have hown : OwnF wr w.heap.size (.slice la (L - K) lc) R (fun t => small (s3 t)) := by
                have h := HSX.out.own.mono (base' := w.heap.size) (Nat.le_of_lt HSX.out.w0)
                rw [hLK] at h ⊢; exact h
              have HZ1 := Lib.hid hz1
              have HOWN := Lib.hid hown
              clear hz1 hown y1
              go_wp2_with fail
              go_ret2
              have h50 : E5 = 0 := by rw [HE5.out, HZ1.out]; rfl
              exact ⟨_, retT rfl (by rw [h50]; rfl), fun h => absurd (HZ1.out.symm.trans h) (by decide), fun _ => HOWN.out, HSX.out.below⟩
end Go.Proofs.Ytdlpemmoobbgnaa
