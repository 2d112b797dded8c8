import Derived.Test.YtejliecmdkmgiaaGF
import Derived.Test.YtejliecmdkmgiaaGAF
import Derived.Test.YtejliecmdkmgiaaGAD
import Derived.Test.YtejliecmdkmgiaaGS
set_option linter.unusedVariables false
set_option linter.unusedSimpArgs false
namespace Go.Proofs.Ytejliecmdkmgiaa
open Go.RowKit laQ
theorem dtQ_ne {n : Nat} {M : Nat → Nat → Int} (h : dt n (fun i j => ((M i j : Int) : Rat)) ≠ 0) : laZ.dt n M ≠ 0 := by
  rw [dtQ_cast] at h
  intro e
  rw [e] at h
  exact h rfl
theorem dtQ_eq0 {n : Nat} {M : Nat → Nat → Int} (h : dt n (fun i j => ((M i j : Int) : Rat)) = 0) : laZ.dt n M = 0 := by
  rw [dtQ_cast] at h
  exact ratI_inj h
theorem PivQ.core {m n r : Nat} {P Q : Nat → Nat} {A : Nat → Nat → Int} (h : PivQ m n r P A) (h' : PivQ n m r Q (fun j i => A i j)) : laZ.dt r (fun i j => A (Q i) (P j)) ≠ 0 := by
  obtain ⟨M, h1, h2⟩ := h
  obtain ⟨M', h3, h4⟩ := h'
  exact dtQ_ne (core_det fldQ h1 h2 h3 h4).2
theorem PivQ.more {m n r k : Nat} {P : Nat → Nat} {A : Nat → Nat → Int} (h : PivQ m n r P A) (hk : r < k) {Q' P' : Nat → Nat} (hQ : ∀ i, i < k → Q' i < m) (hP : ∀ i, i < k → P' i < n) : laZ.dt k (fun i j => A (Q' i) (P' j)) = 0 :=
  dtQ_eq0 (more_det fldQ h.rk hk hQ hP)
end Go.Proofs.Ytejliecmdkmgiaa
namespace Go.Proofs.Ytejliecmdkmgiaa
open laZ
def gcM (A : Nat → Int) (R C K : Nat) : Nat := gcdS (bn R K * bn C K) (cpE A R C K)
theorem gcM_dvd {R C K : Nat} (A : Nat → Int) {Q P : Nat → Nat} (hQ : ∀ i, i + 1 < K → Q i < Q (i + 1)) (hQ' : ∀ i, i < K → Q i < R) (hP : ∀ i, i + 1 < K → P i < P (i + 1)) (hP' : ∀ i, i < K → P i < C) :
    (gcM A R C K : Int) ∣ dt K (fun i j => A (Q i * C + P j)) := by
  obtain ⟨t, ht, h1⟩ := setS_all R K Q hQ hQ'
  obtain ⟨j, hj, h2⟩ := setS_all C K P hP hP'
  have h3 := gcdS_dvd (v := cpE A R C K) (idx_lt ht hj rfl).1
  rw [cpE_at hj] at h3
  have e : dt K (fun i l => A (setS R K t i * C + setS C K j l)) = dt K (fun i j => A (Q i * C + P j)) := dt_congr fun i l hi hl => by rw [h1 i hi, h2 l hl]
  rw [e] at h3
  exact h3
theorem sk_rises {n K t j : Nat} (ht : t < bn n (K + 1)) : ∀ i, i + 1 < K → setS n (K + 1) t (laQ.sk j i) < setS n (K + 1) t (laQ.sk j (i + 1)) := fun i hi => by
  have hri := setS_rises n (K + 1) t ht
  unfold laQ.sk
  by_cases h1 : i + 1 < j
  · rw [if_pos (by omega), if_pos h1]; exact hri i (by omega)
  · rw [if_neg h1]
    by_cases h2 : i < j
    · rw [if_pos h2]
      have := hri i (by omega)
      have := hri (i + 1) (by omega)
      omega
    · rw [if_neg h2]; exact hri (i + 1) (by omega)
theorem bn_le {n K t : Nat} (h : t < bn n K) : K ≤ n := by
  by_cases e : K ≤ n
  · exact e
  · rw [bn_high (by omega)] at h; omega
theorem dvd_sm {g : Int} : ∀ {n : Nat} {f : Nat → Int}, (∀ i, i < n → g ∣ f i) → g ∣ sm n f
  | 0, _, _ => Int.dvd_zero g
  | n + 1, f, h => Int.dvd_add (dvd_sm (n := n) fun i hi => h i (by omega)) (h n (by omega))
theorem gcM_next (A : Nat → Int) (R C K : Nat) : (gcM A R C K : Int) ∣ (gcM A R C (K + 1) : Int) := by
  have h := dvd_gcdS (a := (gcM A R C K : Int)) (b := 1) (n := bn R (K + 1) * bn C (K + 1)) (v := cpE A R C (K + 1)) (fun q hq => by
    rw [Int.one_mul]
    obtain ⟨h1, h2⟩ := idx_at hq
    obtain ⟨t, ht⟩ : ∃ t, t = q / bn C (K + 1) := ⟨_, rfl⟩
    obtain ⟨s, hs⟩ : ∃ s, s = q % bn C (K + 1) := ⟨_, rfl⟩
    unfold cpE
    rw [← ht] at h1 ⊢
    rw [← hs] at h2 ⊢
    obtain ⟨M, hM⟩ : ∃ M : Nat → Nat → Int, M = fun i j => A (setS R (K + 1) t i * C + setS C (K + 1) s j) := ⟨_, rfl⟩
    rw [← hM]
    have e := cof_row (n := K) M (M K) (k := K) (by omega)
    rw [rwr_self] at e
    rw [e]
    refine dvd_sm fun j hj => ?_
    have hd : (gcM A R C K : Int) ∣ dt K (fun r c => M (laQ.sk K r) (laQ.sk j c)) := by
      have h3 := gcM_dvd (R := R) (C := C) (K := K) A (Q := fun i => setS R (K + 1) t (laQ.sk K i)) (P := fun c => setS C (K + 1) s (laQ.sk j c)) (sk_rises h1) (fun i hi => setS_lt (bn_le h1) (no_last (bn_le h1) h1) (laQ.sk_lt hi)) (sk_rises h2) (fun i hi => setS_lt (bn_le h2) (no_last (bn_le h2) h2) (laQ.sk_lt hi))
      rw [hM]
      exact h3
    unfold cof
    exact Int.dvd_mul_of_dvd_right (Int.dvd_mul_of_dvd_right hd))
  rwa [Int.one_mul] at h
theorem gcM_chain (A : Nat → Int) (R C K : Nat) : ∀ d, (gcM A R C K : Int) ∣ (gcM A R C (K + d) : Int)
  | 0 => Int.dvd_refl _
  | d + 1 => Int.dvd_trans (gcM_chain A R C K d) (gcM_next A R C (K + d))
theorem pivQ_exists (m n : Nat) (A : Nat → Nat → Int) : ∃ r P, PivQ m n r P A := by
  obtain ⟨r, P, N, h1, h2, -⟩ := laQ.Rk.exists fldQ m n (fun i j => ((A i j : Int) : Rat))
  exact ⟨r, P, N, h1, h2⟩
theorem gcM_rank {R C K r : Nat} {P : Nat → Nat} (A : Nat → Int) (h : PivQ R C r P (fun i j => A (i * C + j))) : gcM A R C K = 0 ↔ r < K ∨ R < K ∨ C < K := by
  constructor
  · intro h0
    by_cases hk : K ≤ r
    · exfalso
      obtain ⟨r', Q, h'⟩ := pivQ_exists C R (fun j i => A (i * C + j))
      obtain rfl : r' = r := PivQ.turn h' h
      have hc := h.core h'
      have hd := gcM_dvd (R := R) (C := C) (K := r') A (Q := Q) (P := P) (fun i hi => h'.mono i (i + 1) (by omega) hi) (fun i hi => h'.lt i hi) (fun i hi => h.mono i (i + 1) (by omega) hi) (fun i hi => h.lt i hi)
      have hz := gcM_chain A R C K (r' - K)
      rw [h0, show K + (r' - K) = r' by omega] at hz
      exact hc (Int.zero_dvd.1 (Int.dvd_trans hz hd))
    · exact Or.inl (by omega)
  · intro hk
    have h1 := dvd_gcdS (a := 0) (b := 1) (n := bn R K * bn C K) (v := cpE A R C K) (fun q hq => by
      rw [Int.one_mul, Int.zero_dvd]
      obtain ⟨h1, h2⟩ := idx_at hq
      have e1 := bn_le h1
      have e2 := bn_le h2
      exact h.more (by omega) (fun i hi => setS_lt e1 (no_last e1 h1) hi) (fun i hi => setS_lt e2 (no_last e2 h2) hi))
    rw [Int.one_mul, Int.zero_dvd] at h1
    show gcdS _ _ = 0
    omega
end Go.Proofs.Ytejliecmdkmgiaa
namespace Go.Proofs.Ytejliecmdkmgiaa
open laZ
theorem gcM_any {R C K : Nat} (A : Nat → Int) {P : Nat → Nat} (hP : ∀ i, i + 1 < K → P i < P (i + 1)) (hP' : ∀ i, i < K → P i < C) :
    ∀ d, d ≤ K → ∀ Q : Nat → Nat, (∀ i, i < K → Q i < R) → (∀ i i', i < i' → i' < K - d → Q i < Q i') → (gcM A R C K : Int) ∣ dt K (fun i j => A (Q i * C + P j))
  | 0, _, Q, hQ', hQ => gcM_dvd A (fun i hi => hQ i (i + 1) (by omega) (by omega)) hQ' hP hP'
  | d + 1, hd, Q, hQ', hQ => by
    obtain ⟨m, hm⟩ : ∃ m, K = m + 1 + d := ⟨K - d - 1, by omega⟩
    have ih := gcM_any (R := R) A hP hP' d (by omega)
    have key : ∀ p, p ≤ m → ∀ Q : Nat → Nat, (∀ i, i < K → Q i < R) → (∀ i i', i < i' → i' ≤ m → i ≠ p → i' ≠ p → Q i < Q i') → (∀ i', p < i' → i' ≤ m → Q p < Q i') → (gcM A R C K : Int) ∣ dt K (fun i j => A (Q i * C + P j)) := by
      intro p
      induction p with
      | zero =>
        intro _ Q h1 h2 h3
        refine ih Q h1 fun i i' hi hi' => ?_
        by_cases e : i = 0
        · subst e; exact h3 i' hi (by omega)
        · exact h2 i i' hi (by omega) e (by omega)
      | succ p ihp =>
        intro hp Q h1 h2 h3
        rcases Nat.lt_trichotomy (Q p) (Q (p + 1)) with hc | hc | hc
        · refine ih Q h1 fun i i' hi hi' => ?_
          by_cases e1 : i' = p + 1
          · subst e1
            by_cases e2 : i = p
            · subst e2; exact hc
            · exact Nat.lt_trans (h2 i p (by omega) (by omega) (by omega) (by omega)) hc
          · by_cases e2 : i = p + 1
            · subst e2; exact h3 i' hi (by omega)
            · exact h2 i i' hi (by omega) e2 e1
        · rw [dt_alt1 (k := p) _ (by omega) (fun j _ => by show A (Q p * C + P j) = A (Q (p + 1) * C + P j); rw [hc])]
          exact Int.dvd_zero _
        · have hs := dt_swap1 (n := K) (k := p) (fun i j => A (Q i * C + P j)) (by omega)
          have he : dt K (rwr p ((fun i j => A (Q i * C + P j)) (p + 1)) (rwr (p + 1) ((fun i j => A (Q i * C + P j)) p) (fun i j => A (Q i * C + P j)))) = dt K (fun i j => A ((if i = p then Q (p + 1) else if i = p + 1 then Q p else Q i) * C + P j)) := dt_congr fun i j _ _ => by
            unfold rwr
            by_cases e1 : i = p
            · rw [if_pos e1, if_pos e1]
            · rw [if_neg e1, if_neg e1]
              by_cases e2 : i = p + 1
              · rw [if_pos e2, if_pos e2]
              · rw [if_neg e2, if_neg e2]
          rw [he] at hs
          have hd2 := ihp (by omega) (fun i => if i = p then Q (p + 1) else if i = p + 1 then Q p else Q i) (fun i hi => by
            show (if i = p then Q (p + 1) else if i = p + 1 then Q p else Q i) < R
            by_cases e1 : i = p
            · rw [if_pos e1]; exact h1 _ (by omega)
            · rw [if_neg e1]
              by_cases e2 : i = p + 1
              · rw [if_pos e2]; exact h1 _ (by omega)
              · rw [if_neg e2]; exact h1 i hi) (fun i i' hi hi' n1 n2 => by
            show (if i = p then Q (p + 1) else if i = p + 1 then Q p else Q i) < (if i' = p then Q (p + 1) else if i' = p + 1 then Q p else Q i')
            rw [if_neg n1, if_neg n2]
            by_cases e1 : i = p + 1
            · rw [if_pos e1, if_neg (by omega)]
              exact h2 p i' (by omega) hi' (by omega) (by omega)
            · rw [if_neg e1]
              by_cases e2 : i' = p + 1
              · rw [if_pos e2]
                exact h2 i p (by omega) (by omega) e1 (by omega)
              · rw [if_neg e2]
                exact h2 i i' hi hi' e1 e2) (fun i' hi hi' => by
            show (if p = p then Q (p + 1) else if p = p + 1 then Q p else Q p) < (if i' = p then Q (p + 1) else if i' = p + 1 then Q p else Q i')
            rw [if_pos rfl, if_neg (by omega)]
            by_cases e2 : i' = p + 1
            · rw [if_pos e2]; exact hc
            · rw [if_neg e2]; exact h3 i' (by omega) hi')
          rw [hs] at hd2
          exact Int.dvd_neg.1 hd2
    exact key m (Nat.le_refl m) Q hQ' (fun i i' hi hi' n1 n2 => hQ i i' hi (by omega)) (fun i' hi hi' => by omega)
def stpE (A : Nat → Int) (C i j : Nat) (u : Int) (q : Nat) : Int := if q / C = i then A q + u * A (j * C + q % C) else A q
theorem stp_at {A : Nat → Int} {C i j r c : Nat} {u : Int} (hc : c < C) : stpE A C i j u (r * C + c) = if r = i then A (r * C + c) + u * A (j * C + c) else A (r * C + c) := by
  obtain ⟨h1, h2⟩ := idx_dm (i := r) hc
  unfold stpE
  rw [h1, h2]
theorem stp_dvd {R C K i j : Nat} (A : Nat → Int) (u : Int) (hi : i < R) (hj : j < R) (hij : i ≠ j) : (gcM A R C K : Int) ∣ (gcM (stpE A C i j u) R C K : Int) := by
  have h := dvd_gcdS (a := (gcM A R C K : Int)) (b := 1) (n := bn R K * bn C K) (v := cpE (stpE A C i j u) R C K) (fun q hq => by
    rw [Int.one_mul]
    obtain ⟨h1, h2⟩ := idx_at hq
    have e1 := bn_le h1
    have e2 := bn_le h2
    have hQ := setS_rises R K _ h1
    have hQ' : ∀ p, p < K → setS R K (q / bn C K) p < R := fun p hp => setS_lt e1 (no_last e1 h1) hp
    have hP := setS_rises C K _ h2
    have hP' : ∀ p, p < K → setS C K (q % bn C K) p < C := fun p hp => setS_lt e2 (no_last e2 h2) hp
    unfold cpE
    generalize setS R K (q / bn C K) = Q at *
    generalize setS C K (q % bn C K) = P at *
    have hinj : ∀ p p', p < p' → p' < K → Q p < Q p' := fun p p' hp hp' => by
      induction p' with
      | zero => omega
      | succ p' ih =>
        have := hQ p' hp'
        by_cases e : p = p'
        · rw [e]; exact this
        · exact Nat.lt_trans (ih (by omega) (by omega)) this
    by_cases hex : ∃ p, p < K ∧ Q p = i
    · obtain ⟨p, hp, hpi⟩ := hex
      have hM : dt K (fun r c => stpE A C i j u (Q r * C + P c)) = dt K (rwr p (fun c => 1 * A (Q p * C + P c) + u * A (j * C + P c)) (fun r c => A (Q r * C + P c))) := dt_congr fun r c hr hc => by
        rw [stp_at (hP' c hc)]
        by_cases e : r = p
        · subst e
          rw [rwr_at, if_pos hpi, Int.one_mul]
        · rw [rwr_ne _ _ _ e, if_neg (fun h => by
            rcases Nat.lt_or_gt_of_ne e with h3 | h3
            · have := hinj r p h3 hp; omega
            · have := hinj p r h3 hr; omega)]
      rw [hM, dt_lin (fun r c => A (Q r * C + P c)) 1 u (fun c => A (Q p * C + P c)) (fun c => A (j * C + P c)) hp]
      refine Int.dvd_add (Int.dvd_mul_of_dvd_right ?_) (Int.dvd_mul_of_dvd_right ?_)
      · have e : rwr p (fun c => A (Q p * C + P c)) (fun r c => A (Q r * C + P c)) = fun r c => A (Q r * C + P c) := rwr_self p (fun r c => A (Q r * C + P c))
        rw [e]
        exact gcM_dvd A hQ hQ' hP hP'
      · have e : dt K (rwr p (fun c => A (j * C + P c)) (fun r c => A (Q r * C + P c))) = dt K (fun r c => A ((if r = p then j else Q r) * C + P c)) := dt_congr fun r c _ _ => by
          unfold rwr
          by_cases e : r = p
          · rw [if_pos e, if_pos e]
          · rw [if_neg e, if_neg e]
        rw [e]
        exact gcM_any A hP hP' K (Nat.le_refl K) _ (fun r hr => by
          show (if r = p then j else Q r) < R
          by_cases e : r = p
          · rw [if_pos e]; exact hj
          · rw [if_neg e]; exact hQ' r hr) (fun r r' _ h => absurd h (by omega))
    · have e : dt K (fun r c => stpE A C i j u (Q r * C + P c)) = dt K (fun r c => A (Q r * C + P c)) := dt_congr fun r c hr hc => by
        rw [stp_at (hP' c hc), if_neg (fun h => hex ⟨r, hr, h⟩)]
      rw [e]
      exact gcM_dvd A hQ hQ' hP hP')
  rwa [Int.one_mul] at h
theorem gcM_congr {A B : Nat → Int} {R C K : Nat} (h : ∀ q, q < R * C → A q = B q) : gcM A R C K = gcM B R C K := by
  have key : ∀ {A B : Nat → Int}, (∀ q, q < R * C → A q = B q) → (gcM A R C K : Int) ∣ (gcM B R C K : Int) := fun {A B} h => by
    have h1 := dvd_gcdS (a := (gcM A R C K : Int)) (b := 1) (n := bn R K * bn C K) (v := cpE B R C K) (fun q hq => by
      rw [Int.one_mul]
      have hd := gcdS_dvd (v := cpE A R C K) hq
      have e : cpE A R C K q = cpE B R C K q := by
        obtain ⟨h1, h2⟩ := idx_at hq
        have e1 := bn_le h1
        have e2 := bn_le h2
        exact dt_congr fun r c hr hc => h _ (idx_lt (setS_lt e1 (no_last e1 h1) hr) (setS_lt e2 (no_last e2 h2) hc) rfl).1
      rw [← e]
      exact hd)
    rwa [Int.one_mul] at h1
  exact Nat.dvd_antisymm (Int.ofNat_dvd.1 (key h)) (Int.ofNat_dvd.1 (key fun q hq => (h q hq).symm))
theorem gcM_step {R C K i j : Nat} (A : Nat → Int) (u : Int) (hi : i < R) (hj : j < R) (hij : i ≠ j) : gcM (stpE A C i j u) R C K = gcM A R C K := by
  have h1 := stp_dvd (C := C) (K := K) A u hi hj hij
  have h2 := stp_dvd (C := C) (K := K) (stpE A C i j u) (-u) hi hj hij
  have e : gcM (stpE (stpE A C i j u) C i j (-u)) R C K = gcM A R C K := gcM_congr fun q hq => by
    obtain ⟨k1, k2⟩ := idx_at hq
    obtain ⟨r, hr⟩ : ∃ r, r = q / C := ⟨_, rfl⟩
    obtain ⟨c, hc⟩ : ∃ c, c = q % C := ⟨_, rfl⟩
    have hqe : q = r * C + c := by rw [hr, hc, Nat.mul_comm]; exact (Nat.div_add_mod q C).symm
    rw [← hc] at k2
    have s0 := stp_at (A := stpE A C i j u) (i := i) (j := j) (u := -u) (r := r) k2
    have s1 := stp_at (A := A) (i := i) (j := j) (u := u) (r := r) k2
    have s2 := stp_at (A := A) (i := i) (j := j) (u := u) (r := j) k2
    rw [if_neg (fun h => hij h.symm)] at s2
    rw [hqe, s0, s1, s2]
    by_cases e : r = i
    · rw [if_pos e, if_pos e, Int.neg_mul]; omega
    · rw [if_neg e, if_neg e]
  rw [e] at h2
  exact (Nat.dvd_antisymm (Int.ofNat_dvd.1 h1) (Int.ofNat_dvd.1 h2)).symm
end Go.Proofs.Ytejliecmdkmgiaa
namespace Go.Proofs.Ytejliecmdkmgiaa
open Go.RowKit Go.Shelf
theorem FrZ.gap {w w' : World} {base : Nat} {s : Bool} {m : Value} {z : Int} (h : FrZ w base (.agg #[.bool s, m]) z) {r : Option Nat} (hg : w.grownBy w' r) (hd : ∀ d, r = some d → m.ownBlock ≠ some d) : FrZ w' base (.agg #[.bool s, m]) z := by
  obtain ⟨m', n, f, e, k1, k2⟩ := h
  simp only [Value.agg.injEq, Array.mk.injEq, List.cons.injEq, and_true, true_and] at e
  obtain ⟨e1, rfl⟩ := e
  refine ⟨m, n, f, by rw [e1], k1.grown hg ?_, k2⟩
  cases hm : m.ownBlock with
  | none => exact Or.inl rfl
  | some k => exact Or.inr fun e => hd k e.symm hm
theorem ZBox.grow' {W W' : World} {s : Bool} {v : Value} {q : Nat} (h : ZBox W q s v) {o : Option Nat} (hg : W.grownBy W' o) (hd : ∀ d, o = some d → q ≠ d) : ZBox W' q s v := by
  cases o with
  | none => exact h.below ⟨hg.os, hg.tape, hg.output, hg.size, fun k hk => hg.block k hk (by simp)⟩
  | some d => exact h.grown hg (hd d rfl)
theorem RdZ.gap {w w' : World} {s : Bool} {m : Value} {z : Int} {r : Option Nat} (h : RdZ w (.agg #[.bool s, m]) z) (hg : w.grownBy w' r) (hm : ∀ d, r = some d → m.ownBlock ≠ some d) : RdZ w' (.agg #[.bool s, m]) z := by
  cases r with
  | none => exact h.below ⟨hg.os, hg.tape, hg.output, hg.size, fun k hk => hg.block k hk (by simp)⟩
  | some d => exact h.gb hg (hm d rfl)
def GS (W : World) (base : Nat) (P : Nat → Prop) (gb : Nat) (mg : Value) (n : Nat) : Prop :=
  ZBox W gb false mg ∧ FrZ W base (.agg #[.bool false, mg]) (n : Int) ∧ ∀ b, mg.ownBlock = some b → P b
section
variable {W W' : World} {base gb n : Nat} {P P' : Nat → Prop} {mg : Value}
theorem GS.grown (h : GS W base P gb mg n) {r : Option Nat} (hg : W.grownBy W' r) (hd : ∀ d, r = some d → gb ≠ d ∧ ¬ P d) : GS W' base P gb mg n :=
  ⟨h.1.grow' hg (fun d hd' => (hd d hd').1), h.2.1.gap hg (fun d hd' e => (hd d hd').2 (h.2.2 d e)), h.2.2⟩
theorem GS.imp (h : GS W base P gb mg n) (hp : ∀ b, base ≤ b → b < W.heap.size → P b → P' b) : GS W base P' gb mg n := by
  refine ⟨h.1, h.2.1, fun b hb => ?_⟩
  obtain ⟨a, c, d, e, ho⟩ := h.2.1.agg
  simp only [Value.agg.injEq, Array.mk.injEq, List.cons.injEq, and_true, true_and] at e
  have hb2 := hb
  rw [e.2] at hb2
  exact hp b (ho b hb2).1 (ho b hb2).2 (h.2.2 b hb)
theorem GS.slice (h : GS W base P gb mg n) : ∃ a k c, mg = .slice a k c := by
  obtain ⟨a, c, d, e, -⟩ := h.2.1.agg
  simp only [Value.agg.injEq, Array.mk.injEq, List.cons.injEq, and_true, true_and] at e
  exact ⟨_, _, _, e.2⟩
end
structure GcB (w : World) (R C : Nat) (sl : Value) (K nb kb gb : Nat) (mo : Value) (P : Nat → Prop) (mg : Value) (n : Nat) (W : World) : Prop where
  bel : Below w.heap.size w W
  a : MBox W w.heap.size R C sl
  k : W.cell? ⟨w.heap.size + 1, 0, none⟩ = some (.int .i64 K)
  r : ZBox W (w.heap.size + 1 + 1) false (.slice none 0 0)
  e : W.cell? ⟨w.heap.size + 1 + 1 + 1, 0, none⟩ = some (.int .i64 0) ∧ W.frozen? ⟨w.heap.size + 1 + 1 + 1, 0, none⟩ = false
  g : GS W w.heap.size P gb mg n
  o : ZBox W (gb + 1) false mo
  o1 : RdZ W (.agg #[.bool false, mo]) 1
  o2 : ∀ b, mo.ownBlock = some b → b < gb
  nn : W.cell? ⟨nb, 0, none⟩ = some (.int .i64 R)
  kk : W.cell? ⟨kb, 0, none⟩ = some (.int .i64 K)
  lm : w.heap.size + 4 ≤ gb
  ln : gb + 1 < nb
  lk : nb < kb
section
variable {w W W' : World} {R C K nb kb gb n m : Nat} {sl mo mg mv : Value} {P P' : Nat → Prop}
theorem GcB.grown (h : GcB w R C sl K nb kb gb mo P mg n W) {r : Option Nat} (hg : W.grownBy W' r) (hr : ∀ b, r = some b → kb < b ∧ ¬ P b) : GcB w R C sl K nb kb gb mo P mg n W' := by
  have h1 := h.lm
  have h2 := h.ln
  have h3 := h.lk
  have hne : ∀ q, q ≤ kb → ∀ d, r = some d → q ≠ d := fun q hq d hd => by have := (hr d hd).1; omega
  have hce : ∀ {q i v}, q ≤ kb → W.cell? ⟨q, i, none⟩ = some v → W'.cell? ⟨q, i, none⟩ = some v := fun hq hc => hg.cell hc (fun e => hne _ hq _ e.symm rfl)
  refine { h with bel := h.bel.grown hg h.bel.size (fun b hb => by have := (hr b hb).1; omega), a := h.a.grow' hg (hne _ (by omega)), k := hce (by omega) h.k, r := h.r.grow' hg (hne _ (by omega)), e := ⟨hce (by omega) h.e.1, ?_⟩, g := h.g.grown hg (fun d hd => ⟨hne _ (by omega) d hd, (hr d hd).2⟩), o := h.o.grow' hg (hne _ (by omega)), o1 := h.o1.gap hg (fun d hd e => by have := h.o2 d e; have := (hr d hd).1; omega), nn := hce (by omega) h.nn, kk := hce (by omega) h.kk }
  cases r with
  | none => exact froz_stays ⟨hg.os, hg.tape, hg.output, hg.size, fun k hk => hg.block k hk (by simp)⟩ h.e.1 h.e.2
  | some d => exact froz_grown hg (hne _ (by omega) d rfl) h.e.1 h.e.2
theorem GcB.below (h : GcB w R C sl K nb kb gb mo P mg n W) (hb : Below W.heap.size W W') : GcB w R C sl K nb kb gb mo P mg n W' := h.grown (gb_below hb none) (fun _ e => by cases e)
theorem GcB.imp (h : GcB w R C sl K nb kb gb mo P mg n W) (hp : ∀ b, w.heap.size ≤ b → b < W.heap.size → P b → P' b) : GcB w R C sl K nb kb gb mo P' mg n W := { h with g := h.g.imp hp }
theorem GcB.put (h : GcB w R C sl K nb kb gb mo P mg n W) (hf : FrZ W w.heap.size (.agg #[.bool false, mv]) (m : Int)) (hP : ∀ b, mv.ownBlock = some b → P b ∧ gb < b) : GcB w R C sl K nb kb gb mo P mv m (stored2 W gb (.bool false) mv) := by
  have hg := stored2_gb W gb (.bool false) mv
  have h1 := h.lm
  have h2 := h.ln
  have h3 := h.lk
  have hce : ∀ {q i v}, q ≠ gb → W.cell? ⟨q, i, none⟩ = some v → (stored2 W gb (.bool false) mv).cell? ⟨q, i, none⟩ = some v := fun hq hc => hg.cell hc (fun e => hq (Option.some.inj e))
  exact { h with
    bel := h.bel.grown hg h.bel.size (fun b hb => by cases hb; omega), a := h.a.grown hg (by omega), k := hce (by omega) h.k, r := h.r.grown hg (by omega)
    e := ⟨hce (by omega) h.e.1, froz_grown hg (by omega) h.e.1 h.e.2⟩
    g := ⟨h.g.1.store, hf.gap hg (fun d hd e => by cases hd; have := (hP _ e).2; omega), fun b hb => (hP b hb).1⟩
    o := h.o.grown hg (by omega), o1 := h.o1.gap hg (fun d hd e => by cases hd; have := h.o2 _ e; omega), nn := hce (by omega) h.nn, kk := hce (by omega) h.kk }
end
structure GcI (w : World) (R C : Nat) (sl : Value) (K nb kb gb : Nat) (mo : Value) (D s bx n2 k2 e t : Nat) (W : World) (mg : Value) (n : Nat) (V : World) : Prop where
  b : GcB w R C sl K nb kb gb mo (fun b => D < b ∧ (b < s ∨ e < b)) mg n V
  r : V.cell? ⟨bx, 0, none⟩ = some (.slice (some ⟨s, 0, none⟩) K K)
  c2 : V.cell? ⟨n2, 0, none⟩ = some (.int .i64 C)
  c3 : V.cell? ⟨k2, 0, none⟩ = some (.int .i64 K)
  nu : NumL V s (.slice (some ⟨s, 0, none⟩) K K) K (setS R K t)
  kx : Kx D W V
  h1 : kb < D
  h2 : D < s
  h3 : s < bx
  h4 : bx < n2
  h5 : n2 < k2
  h6 : k2 + 1 < e
  h7 : W.heap.size = n2
section
variable {w W V V' : World} {R C K nb kb gb D s bx n2 k2 e t n m : Nat} {sl mo mg mv : Value}
theorem GcI.grown (h : GcI w R C sl K nb kb gb mo D s bx n2 k2 e t W mg n V) {r : Option Nat} (hg : V.grownBy V' r) (hr : ∀ b, r = some b → b = e ∨ b + 1 = e) : GcI w R C sl K nb kb gb mo D s bx n2 k2 e t W mg n V' := by
  have h1 := h.h1
  have h2 := h.h2
  have h3 := h.h3
  have h4 := h.h4
  have h5 := h.h5
  have h6 := h.h6
  have hlo : ∀ b, r = some b → k2 < b := fun b hb => by rcases hr b hb with h | h <;> omega
  have hce : ∀ {q v}, q ≤ k2 → V.cell? ⟨q, 0, none⟩ = some v → V'.cell? ⟨q, 0, none⟩ = some v := fun {q v} hq hc => hg.cell hc (fun e => by have := hlo q e.symm; omega)
  refine { h with b := h.b.grown hg (fun b hb => by have := hlo b hb; exact ⟨by omega, fun hp => by rcases hr b hb with h | h <;> omega⟩), r := hce (by omega) h.r, c2 := hce (by omega) h.c2, c3 := hce (by omega) h.c3, nu := World.ownsRow.kept h.nu hg (Or.inr fun e => ?_), kx := ⟨KeepsOthers.grow h.kx.1 hg (fun b hb => by have := hlo b hb; have := h.h7; omega), ?_, Nat.le_trans h.kx.2.2 hg.size⟩ }
  · have := hlo s e.symm; omega
  · refine (hg.block D ?_ (fun e => by have := hlo D e.symm; omega)).trans h.kx.2.1
    have := h.h7
    have := h.kx.2.2
    omega
theorem GcI.below (h : GcI w R C sl K nb kb gb mo D s bx n2 k2 e t W mg n V) (hb : Below V.heap.size V V') : GcI w R C sl K nb kb gb mo D s bx n2 k2 e t W mg n V' := h.grown (gb_below hb none) (fun _ e => by cases e)
theorem GcI.put (h : GcI w R C sl K nb kb gb mo D s bx n2 k2 e t W mg n V) (he : e < V.heap.size) (hf : FrZ V w.heap.size (.agg #[.bool false, mv]) (m : Int)) (hP : ∀ b, mv.ownBlock = some b → e < b) :
    GcI w R C sl K nb kb gb mo D s bx n2 k2 e t W mv m (stored2 V gb (.bool false) mv) ∧ Kx e V (stored2 V gb (.bool false) mv) := by
  have h1 := h.h1
  have h2 := h.h2
  have h3 := h.h3
  have h4 := h.h4
  have h5 := h.h5
  have h6 := h.h6
  have h7 := h.h7
  have h8 := h.b.ln
  have h9 := h.b.lk
  have hgm := stored2_gb V gb (.bool false) mv
  have hce : ∀ {q v}, s < q → V.cell? ⟨q, 0, none⟩ = some v → (stored2 V gb (.bool false) mv).cell? ⟨q, 0, none⟩ = some v := fun {q v} hs hc =>
    hgm.cell hc (fun e => by injection e with e; have e2 : q = gb := e; omega)
  have hX : ∀ q, q < V.heap.size → gb < q → (stored2 V gb (.bool false) mv).heap[q]? = V.heap[q]? := fun q hq hm => hgm.block q hq (fun e => by injection e with e2; omega)
  have hko : KeepsOthers V (stored2 V gb (.bool false) mv) := (KeepsOthers.setCell _ _ _).trans (KeepsOthers.setCell _ _ _)
  have hD : D < V.heap.size := by have := h.kx.2.2; omega
  exact ⟨{ h with
    b := h.b.put hf (fun b hb => by have := hP b hb; exact ⟨⟨by omega, Or.inr this⟩, by omega⟩)
    r := hce h3 h.r, c2 := hce (by omega) h.c2, c3 := hce (by omega) h.c3
    nu := World.ownsRow.kept h.nu hgm (Or.inr fun e => by injection e with e; have e2 : s = gb := e; omega)
    kx := ⟨h.kx.1.trans hko, (hX D hD (by omega)).trans h.kx.2.1, Nat.le_trans h.kx.2.2 hko.size⟩ }, hko, hX e he (by omega), hko.size⟩
end
structure GcX (w : World) (P : Nat → Prop) (W : World) : Prop where
  bel : Below w.heap.size w W
  lo : w.heap.size + 4 ≤ W.heap.size
  v : ∃ mg, GS W w.heap.size P (w.heap.size + 1 + 1) mg 1
  e : W.cell? ⟨w.heap.size + 1 + 1 + 1, 0, none⟩ = some (.int .i64 0)
theorem GcX.grown {w W W' : World} {P : Nat → Prop} (h : GcX w P W) {r : Option Nat} (hg : W.grownBy W' r) (hr : ∀ b, r = some b → w.heap.size + 4 ≤ b ∧ ¬ P b) : GcX w P W' := by
  obtain ⟨mg, h2⟩ := h.v
  exact ⟨h.bel.grown hg h.bel.size (fun b hb => by have := (hr b hb).1; omega), Nat.le_trans h.lo hg.size, ⟨mg, h2.grown hg (fun d hd => ⟨by have := (hr d hd).1; omega, (hr d hd).2⟩)⟩, hg.cell h.e (fun e => by have := (hr _ e.symm).1; have h2 : w.heap.size + 1 + 1 + 1 = w.heap.size + 1 + 1 + 1 := rfl; simp at this; omega)⟩
theorem GcX.imp {w W : World} {P P' : Nat → Prop} (h : GcX w P W) (hp : ∀ b, w.heap.size ≤ b → b < W.heap.size → P b → P' b) : GcX w P' W := by
  obtain ⟨mg, h2⟩ := h.v
  exact { h with v := ⟨mg, h2.imp hp⟩ }
theorem GcX.mk' {w W : World} {P : Nat → Prop} {sl mo mg : Value} {R C K nb kb gb : Nat} (h : GcB w R C sl K nb kb gb mo P mg 1 W) (hP : ∀ b, P b → kb < b) :
    GcX w P ((stored2 W (w.heap.size + 1 + 1) (.bool false) mg).setCell ⟨w.heap.size + 1 + 1 + 1, 0, none⟩ (.int .i64 0)) := by
  have h1 := h.lm
  have h2 := h.ln
  have h3 := h.lk
  have g1 := stored2_gb W (w.heap.size + 1 + 1) (.bool false) mg
  have g2 := gb_set (stored2 W (w.heap.size + 1 + 1) (.bool false) mg) ⟨w.heap.size + 1 + 1 + 1, 0, none⟩ (.int .i64 0)
  have hs : w.heap.size + 1 + 1 + 1 < W.heap.size := by
    have := h.e.1
    unfold World.cell? at this
    cases hh : W.heap[w.heap.size + 1 + 1 + 1]? with
    | none => simp only [hh] at this; cases this
    | some o => exact (Array.getElem?_eq_some_iff.1 hh).1
  have hfr : FrZ ((stored2 W (w.heap.size + 1 + 1) (.bool false) mg).setCell ⟨w.heap.size + 1 + 1 + 1, 0, none⟩ (.int .i64 0)) w.heap.size (.agg #[.bool false, mg]) ((1 : Nat) : Int) :=
    (h.g.2.1.gap g1 (fun d hd e => by cases hd; have := hP _ (h.g.2.2 _ e); omega)).gap g2 (fun d hd e => by injection hd with hd; have e2 : w.heap.size + 1 + 1 + 1 = d := hd; subst e2; have := hP _ (h.g.2.2 _ e); omega)
  have he1 := g1.cell h.e.1 (fun e => by injection e with e; have e2 : w.heap.size + 1 + 1 + 1 = w.heap.size + 1 + 1 := e; omega)
  refine ⟨(h.bel.grown g1 h.bel.size (fun b hb => by cases hb; omega)).grown g2 (Nat.le_trans h.bel.size g1.size) (fun b hb => by injection hb with hb; have e2 : w.heap.size + 1 + 1 + 1 = b := hb; omega), by have := g1.size; have := g2.size; omega, ⟨mg, ?_, hfr, h.g.2.2⟩, World.cell?_setCell_same _ _ _ he1⟩
  exact h.r.store.grown g2 (by show w.heap.size + 1 + 1 ≠ w.heap.size + 1 + 1 + 1; omega)
theorem boxes_gc (w : World) (r c : Int) (v k : Value) :
    let W := (((w.alloc (.cells #[.int .i64 r, .int .i64 c, v] 24)).alloc (.cells #[k] 3)).alloc (.cells #[.bool false, .slice none 0 0] 49)).alloc (.cells #[.int .i64 0] 26)
    MBox W w.heap.size r c v ∧ W.cell? ⟨w.heap.size + 1, 0, none⟩ = some k ∧ ZBox W (w.heap.size + 1 + 1) false (.slice none 0 0) ∧ (W.cell? ⟨w.heap.size + 1 + 1 + 1, 0, none⟩ = some (.int .i64 0) ∧ W.frozen? ⟨w.heap.size + 1 + 1 + 1, 0, none⟩ = false) ∧ Below w.heap.size w W ∧ W.heap.size = w.heap.size + 4 := by
  intro W
  obtain ⟨W', hW⟩ : ∃ W', W' = W := ⟨_, rfl⟩
  rw [← hW]
  have hW2 : W' = (((w.alloc (.cells #[.int .i64 r, .int .i64 c, v] 24)).alloc (.cells #[k] 3)).alloc (.cells #[.bool false, .slice none 0 0] 49)).alloc (.cells #[.int .i64 0] 26) := hW
  clear hW
  clear W
  have h1 := MBox.new w r c v
  have s1 : (w.alloc (.cells #[.int .i64 r, .int .i64 c, v] 24)).heap.size = w.heap.size + 1 := by simp
  have b1 := bl_alloc w (.cells #[.int .i64 r, .int .i64 c, v] 24)
  generalize w.alloc (.cells #[.int .i64 r, .int .i64 c, v] 24) = w1 at *
  have h2 := (one_cell' w1 k 3).1
  have s2 : (w1.alloc (.cells #[k] 3)).heap.size = w.heap.size + 1 + 1 := by simp [s1]
  have b2 := bl_alloc w1 (.cells #[k] 3)
  generalize w1.alloc (.cells #[k] 3) = w2 at *
  have h3 := ZBox.new w2 false (.slice none 0 0)
  have s3 : (w2.alloc (.cells #[.bool false, .slice none 0 0] 49)).heap.size = w.heap.size + 1 + 1 + 1 := by simp [s2]
  have b3 := bl_alloc w2 (.cells #[.bool false, .slice none 0 0] 49)
  generalize w2.alloc (.cells #[.bool false, .slice none 0 0] 49) = w3 at *
  have h4 := one_cell' w3 (.int .i64 0) 26
  have b4 := bl_alloc w3 (.cells #[.int .i64 0] 26)
  rw [s1] at h2
  rw [s2] at h3
  rw [s3] at h4
  rw [hW2]
  exact ⟨((h1.below b2).below b3).below b4, cell_stays b4 (cell_stays b3 h2), h3.below b4, h4, below_via (below_via (below_via b1 b2) b3) b4, by show (World.alloc w3 _).heap.size = _; simp [s3]⟩
theorem two_zb (w : World) (s t : Bool) (a b : Value) :
    let W := (w.alloc (.cells #[.bool s, a] 49)).alloc (.cells #[.bool t, b] 49)
    ZBox W w.heap.size s a ∧ ZBox W (w.heap.size + 1) t b ∧ Below w.heap.size w W ∧ W.heap.size = w.heap.size + 2 := by
  have h1 := ZBox.new w s a
  have b1 := bl_alloc w (.cells #[.bool s, a] 49)
  have s1 : (w.alloc (.cells #[.bool s, a] 49)).heap.size = w.heap.size + 1 := by simp
  have h2 := ZBox.new (w.alloc (.cells #[.bool s, a] 49)) t b
  have b2 := bl_alloc (w.alloc (.cells #[.bool s, a] 49)) (.cells #[.bool t, b] 49)
  rw [s1] at h2
  exact ⟨h1.below b2, h2, below_via b1 b2, by simp⟩
theorem gcdS_one {v : Nat → Int} {p : Nat} (h : gcdS p v = 1) : ∀ d, gcdS (p + d) v = 1
  | 0 => h
  | d + 1 => by
    show Int.gcd (gcdS (p + d) v : Int) (v (p + d)) = 1
    rw [gcdS_one h d]
    exact Int.one_gcd
theorem cmpZ_one {m : Nat} : cmpZ (m : Int) 1 = 0 ↔ m = 1 := by
  unfold cmpZ
  constructor
  · intro h
    by_cases h1 : (m : Int) < 1
    · rw [if_pos h1] at h; omega
    · rw [if_neg h1] at h
      by_cases h2 : (1 : Int) < m
      · rw [if_pos h2] at h; omega
      · omega
  · rintro rfl
    rfl
end Go.Proofs.Ytejliecmdkmgiaa
