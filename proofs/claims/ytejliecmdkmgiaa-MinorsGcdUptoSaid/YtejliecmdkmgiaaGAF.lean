import Derived.Test.YtejliecmdkmgiaaGX
import Derived.Test.YtejliecmdkmgiaaGJ
import Derived.Test.YtejliecmdkmgiaaGI
import Derived.Test.YtejliecmdkmgiaaGE
import Derived.Test.YtejliecmdkmgiaaGK
import Derived.Test.YtejliecmdkmgiaaGQ
import Derived.Test.YtejliecmdkmgiaaGAA
import Derived.Test.YtejliecmdkmgiaaGZ
import Derived.Test.YtejliecmdkmgiaaGAE
set_option linter.unusedVariables false
set_option linter.unusedSimpArgs false
namespace Go.Proofs.Ytejliecmdkmgiaa
open Go.RowKit Go.Shelf
end Go.Proofs.Ytejliecmdkmgiaa
namespace Go.Proofs.Ytejliecmdkmgiaa
open laZ
end Go.Proofs.Ytejliecmdkmgiaa
namespace Go.Proofs.Ytejliecmdkmgiaa
open laZ
theorem hiI_cons {n K : Nat} {S P : Nat → Nat} (hK : K ≤ n) : ∀ {j}, j ≤ K → (∀ i, i < j → P (i + 1) = S i + 1) → 0 < hiI n K S j → hiI (n + 1) (K + 1) P (j + 1) = hiI n K S j + 1
  | 0, _, _, h => absurd h (by unfold hiI; omega)
  | j + 1, hj, hP, h => by
    have e : P (j + 1) = S j + 1 := hP j (by omega)
    show (if P (j + 1) = n + 1 - (K + 1) + (j + 1) then hiI (n + 1) (K + 1) P (j + 1) else j + 1 + 1) = (if S j = n - K + j then hiI n K S j else j + 1) + 1
    by_cases c : S j = n - K + j
    · have h1 : hiI n K S (j + 1) = hiI n K S j := by show (if S j = n - K + j then hiI n K S j else j + 1) = _; rw [if_pos c]
      rw [if_pos c, if_pos (by omega)]
      rw [h1] at h
      exact hiI_cons hK (by omega) (fun i hi => hP i (by omega)) h
    · rw [if_neg c, if_neg (by omega)]
theorem setS_cons {n K : Nat} (hK : K ≤ n) : ∀ t, t < bn n K → ∀ i, i < K + 1 → setS (n + 1) (K + 1) t i = if i = 0 then 0 else setS n K t (i - 1) + 1
  | 0, _, i, _ => by
    show i = if i = 0 then 0 else (i - 1) + 1
    by_cases h : i = 0
    · rw [if_pos h, h]
    · rw [if_neg h]; omega
  | t + 1, ht, i, hi => by
    have ih := setS_cons hK t (by omega)
    have hn := no_last hK ht t (by omega)
    have hh := hiI_cons (P := setS (n + 1) (K + 1) t) (S := setS n K t) hK (Nat.le_refl K) (fun j hj => by
      rw [ih (j + 1) (by omega), if_neg (by omega)]; rfl) (Nat.pos_of_ne_zero hn)
    have hle := hiI_le n K (setS n K t) K
    have hpos : 0 < hiI n K (setS n K t) K := Nat.pos_of_ne_zero hn
    show nxtS (n + 1) (K + 1) (setS (n + 1) (K + 1) t) i = if i = 0 then 0 else nxtS n K (setS n K t) (i - 1) + 1
    unfold nxtS
    rw [hh]
    obtain ⟨h, e⟩ : ∃ h, h = hiI n K (setS n K t) K := ⟨_, rfl⟩
    rw [← e] at hle hpos ⊢
    by_cases h0 : i = 0
    · subst h0
      rw [if_pos (by omega), if_pos rfl, ih 0 (by omega), if_pos rfl]
    · rw [if_neg h0]
      by_cases h1 : i + 1 < h + 1
      · rw [if_pos h1, if_pos (by omega), ih i hi, if_neg h0]
      · rw [if_neg h1, if_neg (by omega), ih (h + 1 - 1) (by omega), if_neg (by omega)]
        rw [show h + 1 - 1 - 1 = h - 1 by omega]
        omega
theorem hiI_shift {n K : Nat} {S P : Nat → Nat} (hK : K ≤ n) : ∀ {j}, j ≤ K → (∀ i, i < j → P i = S i + 1) → hiI (n + 1) K P j = hiI n K S j
  | 0, _, _ => rfl
  | j + 1, hj, hP => by
    show (if P j = n + 1 - K + j then hiI (n + 1) K P j else j + 1) = (if S j = n - K + j then hiI n K S j else j + 1)
    rw [hP j (by omega), hiI_shift hK (by omega) (fun i hi => hP i (by omega))]
    by_cases c : S j = n - K + j
    · rw [if_pos c, if_pos (by omega)]
    · rw [if_neg c, if_neg (by omega)]
theorem setS_behind {n K : Nat} (hK : K + 1 ≤ n) : ∀ s, s < bn n (K + 1) → ∀ i, i < K + 1 → setS (n + 1) (K + 1) (bn n K + s) i = setS n (K + 1) s i + 1
  | 0, _, i, hi => by
    have hp := bn_pos (n := n) (k := K) (by omega)
    obtain ⟨t, ht⟩ : ∃ t, bn n K = t + 1 := ⟨bn n K - 1, by omega⟩
    have hc := setS_cons (n := n) (K := K) (by omega) t (by omega)
    have hl := is_last (N := n) (K := K) (t := t) (by omega) ht.symm
    unfold LastS at hl
    have hi1 : hiI (n + 1) (K + 1) (setS (n + 1) (K + 1) t) (K + 1) = hiI (n + 1) (K + 1) (setS (n + 1) (K + 1) t) 1 := hiI_down (n + 1) (K + 1) _ (K + 1) 1 (by omega) (fun k h1 h2 => by
      rw [hc k h2, if_neg (by omega), hiI_high n K (setS n K t) K (k - 1) (by omega) (by omega)]
      omega)
    have hi2 : hiI (n + 1) (K + 1) (setS (n + 1) (K + 1) t) 1 = 1 := by
      show (if setS (n + 1) (K + 1) t 0 = n + 1 - (K + 1) + 0 then _ else 0 + 1) = 1
      rw [hc 0 (by omega), if_pos rfl, if_neg (by omega)]
    rw [Nat.add_zero, ht]
    show nxtS (n + 1) (K + 1) (setS (n + 1) (K + 1) t) i = i + 1
    unfold nxtS
    rw [hi1, hi2, if_neg (by omega), hc (1 - 1) (by omega), if_pos rfl]
    omega
  | s + 1, hs, i, hi => by
    have ih := setS_behind hK s (by omega)
    have hh := hiI_shift (P := setS (n + 1) (K + 1) (bn n K + s)) (S := setS n (K + 1) s) hK (Nat.le_refl (K + 1)) ih
    have hn := no_last hK hs s (by omega)
    have hpos : 0 < hiI n (K + 1) (setS n (K + 1) s) (K + 1) := Nat.pos_of_ne_zero hn
    have hle := hiI_le n (K + 1) (setS n (K + 1) s) (K + 1)
    show nxtS (n + 1) (K + 1) (setS (n + 1) (K + 1) (bn n K + s)) i = nxtS n (K + 1) (setS n (K + 1) s) i + 1
    unfold nxtS
    rw [hh]
    obtain ⟨h, e⟩ : ∃ h, h = hiI n (K + 1) (setS n (K + 1) s) (K + 1) := ⟨_, rfl⟩
    rw [← e] at hpos hle ⊢
    by_cases h1 : i + 1 < h
    · rw [if_pos h1, if_pos h1, ih i hi]
    · rw [if_neg h1, if_neg h1, ih (h - 1) (by omega)]
      omega
end Go.Proofs.Ytejliecmdkmgiaa
namespace Go.Proofs.Ytejliecmdkmgiaa
open laZ
theorem setS_rises : ∀ (n K t : Nat), t < bn n K → ∀ i, i + 1 < K → setS n K t i < setS n K t (i + 1)
  | _, 0, _, _, i, hi => absurd hi (by omega)
  | 0, K + 1, t, ht, _, _ => absurd ht (Nat.not_lt_zero t)
  | n + 1, K + 1, t, ht, i, hi => by
    rw [bn_succ] at ht
    by_cases h : t < bn n K
    · have hK : K ≤ n := by
        by_cases e : K ≤ n
        · exact e
        · rw [bn_high (by omega)] at h; omega
      have hc := setS_cons hK t h
      rw [hc i (by omega), hc (i + 1) (by omega), if_neg (by omega : ¬ i + 1 = 0), Nat.add_sub_cancel]
      by_cases h0 : i = 0
      · rw [if_pos h0]; omega
      · rw [if_neg h0]
        have := setS_rises n K t h (i - 1) (by omega)
        rw [show i - 1 + 1 = i by omega] at this
        omega
    · obtain ⟨s, rfl⟩ : ∃ s, t = bn n K + s := ⟨t - bn n K, by omega⟩
      have hs : s < bn n (K + 1) := by omega
      have hK : K + 1 ≤ n := by
        by_cases e : K + 1 ≤ n
        · exact e
        · rw [bn_high (n := n) (k := K + 1) (by omega)] at hs; omega
      have hc := setS_behind hK s hs
      rw [hc i (by omega), hc (i + 1) (by omega)]
      have := setS_rises n (K + 1) s hs i hi
      omega
theorem setS_all : ∀ (n K : Nat) (P : Nat → Nat), (∀ i, i + 1 < K → P i < P (i + 1)) → (∀ i, i < K → P i < n) → ∃ t, t < bn n K ∧ ∀ i, i < K → setS n K t i = P i
  | n, 0, P, _, _ => ⟨0, by rw [bn_zero]; omega, fun i hi => absurd hi (by omega)⟩
  | 0, K + 1, P, _, hP => absurd (hP 0 (by omega)) (Nat.not_lt_zero _)
  | n + 1, K + 1, P, hr, hP => by
    have hpos : ∀ i, i < K + 1 → i ≤ P i := fun i => by
      induction i with
      | zero => intro _; exact Nat.zero_le _
      | succ i ih => intro hi; have := ih (by omega); have := hr i hi; omega
    by_cases h0 : P 0 = 0
    · have hp1 : ∀ i, i + 1 < K + 1 → 1 ≤ P (i + 1) := fun i hi => by have := hpos (i + 1) hi; omega
      obtain ⟨t, ht, hs⟩ := setS_all n K (fun i => P (i + 1) - 1) (fun i hi => by
        have := hr (i + 1) (by omega)
        have := hp1 i (by omega)
        show P (i + 1) - 1 < P (i + 1 + 1) - 1
        omega) (fun i hi => by
        have := hP (i + 1) (by omega)
        have := hp1 i (by omega)
        show P (i + 1) - 1 < n
        omega)
      have hK : K ≤ n := by
        by_cases e : K ≤ n
        · exact e
        · rw [bn_high (by omega)] at ht; omega
      refine ⟨t, by rw [bn_succ]; omega, fun i hi => ?_⟩
      rw [setS_cons hK t ht i hi]
      by_cases e : i = 0
      · rw [if_pos e, e, h0]
      · rw [if_neg e, hs (i - 1) (by omega)]
        have := hp1 (i - 1) (by omega)
        show P (i - 1 + 1) - 1 + 1 = P i
        rw [show i - 1 + 1 = i by omega] at this ⊢
        omega
    · have hp1 : ∀ i, i < K + 1 → 1 ≤ P i := fun i => by
        induction i with
        | zero => intro _; omega
        | succ i ih => intro hi; have := hr i hi; omega
      obtain ⟨s, hs, he⟩ := setS_all n (K + 1) (fun i => P i - 1) (fun i hi => by
        have := hr i hi
        have := hp1 i (by omega)
        show P i - 1 < P (i + 1) - 1
        omega) (fun i hi => by
        have := hP i hi
        have := hp1 i hi
        show P i - 1 < n
        omega)
      have hK : K + 1 ≤ n := by
        by_cases e : K + 1 ≤ n
        · exact e
        · rw [bn_high (n := n) (k := K + 1) (by omega)] at hs; omega
      refine ⟨bn n K + s, by rw [bn_succ]; omega, fun i hi => ?_⟩
      rw [setS_behind hK s hs i hi, he i hi]
      have := hp1 i hi
      show P i - 1 + 1 = P i
      omega
end Go.Proofs.Ytejliecmdkmgiaa
namespace Go.Proofs.Ytejliecmdkmgiaa
open Go.RowKit Go.Shelf
end Go.Proofs.Ytejliecmdkmgiaa
namespace Go.Proofs.Ytejliecmdkmgiaa
open Go.RowKit Go.Shelf
end Go.Proofs.Ytejliecmdkmgiaa
