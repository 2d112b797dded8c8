import Derived.Test.YtejliecmdkmgiaaGA
import Derived.Test.YtejliecmdkmgiaaGX
import Derived.Test.YtejliecmdkmgiaaGI
import Derived.Test.YtejliecmdkmgiaaGH
set_option linter.unusedVariables false
set_option linter.unusedSimpArgs false
namespace Go.Proofs.Ytejliecmdkmgiaa
def hiI (N K : Nat) (P : Nat → Nat) : Nat → Nat
  | 0 => 0
  | j + 1 => if P j = N - K + j then hiI N K P j else j + 1
def nxtS (N K : Nat) (P : Nat → Nat) : Nat → Nat := fun j =>
  if j + 1 < hiI N K P K then P j else P (hiI N K P K - 1) + 1 + (j + 1 - hiI N K P K)
def setS (N K : Nat) : Nat → Nat → Nat
  | 0 => fun i => i
  | t + 1 => nxtS N K (setS N K t)
def LastS (N K t : Nat) : Prop := hiI N K (setS N K t) K = 0
theorem hiI_le (N K : Nat) (P : Nat → Nat) : ∀ j, hiI N K P j ≤ j
  | 0 => Nat.le_refl _
  | j + 1 => by
    unfold hiI
    split
    · have := hiI_le N K P j; omega
    · omega
theorem hiI_high (N K : Nat) (P : Nat → Nat) : ∀ j i, hiI N K P j ≤ i → i < j → P i = N - K + i
  | 0, i, _, h => absurd h (by omega)
  | j + 1, i, h1, h2 => by
    unfold hiI at h1
    split at h1
    · rename_i e
      by_cases hij : i = j
      · subst hij; exact e
      · exact hiI_high N K P j i h1 (by omega)
    · omega
theorem hiI_ne (N K : Nat) (P : Nat → Nat) : ∀ j, 0 < hiI N K P j → P (hiI N K P j - 1) ≠ N - K + (hiI N K P j - 1)
  | 0, h => absurd h (by unfold hiI; omega)
  | j + 1, h => by
    by_cases e : P j = N - K + j
    · have h1 : hiI N K P (j + 1) = hiI N K P j := by show (if P j = N - K + j then hiI N K P j else j + 1) = _; rw [if_pos e]
      rw [h1] at h ⊢
      exact hiI_ne N K P j h
    · have h1 : hiI N K P (j + 1) = j + 1 := by show (if P j = N - K + j then hiI N K P j else j + 1) = _; rw [if_neg e]
      rw [h1]
      exact e
theorem hiI_down (N K : Nat) (P : Nat → Nat) : ∀ j i, i ≤ j → (∀ k, i ≤ k → k < j → P k = N - K + k) → hiI N K P j = hiI N K P i
  | 0, i, h, _ => by obtain rfl : i = 0 := by omega
                     rfl
  | j + 1, i, h, hk => by
    by_cases e : i = j + 1
    · rw [e]
    · show (if P j = N - K + j then hiI N K P j else j + 1) = _
      rw [if_pos (hk j (by omega) (by omega))]
      exact hiI_down N K P j i (by omega) (fun k h1 h2 => hk k h1 (by omega))
def RisS (N K : Nat) (P : Nat → Nat) : Prop := ∀ i, i < K → P i ≤ N - K + i
theorem RisS.nxt {N K : Nat} {P : Nat → Nat} (h : RisS N K P) (h0 : 0 < hiI N K P K) : RisS N K (nxtS N K P) := by
  intro i hi
  unfold nxtS
  have hk := hiI_le N K P K
  have hne := hiI_ne N K P K h0
  split
  · exact h i hi
  · have := h (hiI N K P K - 1) (by omega)
    omega
theorem setS_ris {N K : Nat} (hK : K ≤ N) : ∀ t, (∀ s, s < t → ¬ LastS N K s) → RisS N K (setS N K t)
  | 0, _ => fun i _ => by show i ≤ _; omega
  | t + 1, h => (setS_ris hK t (fun s hs => h s (by omega))).nxt (Nat.pos_of_ne_zero (h t (by omega)))
theorem setS_lt {N K t : Nat} (hK : K ≤ N) (h : ∀ s, s < t → ¬ LastS N K s) {i : Nat} (hi : i < K) : setS N K t i < N := by
  have := setS_ris hK t h i hi
  omega
def vS (B : Nat) (P : Nat → Nat) : Nat → Nat
  | 0 => 0
  | j + 1 => vS B P j * B + P j
theorem vS_congr {B : Nat} {P P' : Nat → Nat} : ∀ {j}, (∀ i, i < j → P i = P' i) → vS B P j = vS B P' j
  | 0, _ => rfl
  | j + 1, h => by
    unfold vS
    rw [vS_congr (j := j) (fun i hi => h i (by omega)), h j (by omega)]
theorem vS_lt {B : Nat} {P : Nat → Nat} : ∀ {j}, (∀ i, i < j → P i < B) → vS B P j < B ^ j
  | 0, _ => by simp [vS]
  | j + 1, h => by
    have h1 := vS_lt (j := j) (fun i hi => h i (by omega))
    have h2 := h j (by omega)
    unfold vS
    rw [Nat.pow_succ]
    have : (vS B P j + 1) * B ≤ B ^ j * B := Nat.mul_le_mul_right B h1
    rw [Nat.add_mul, Nat.one_mul] at this
    omega
theorem vS_step {B : Nat} {P P' : Nat → Nat} {h : Nat} (h0 : 0 < h) (he : ∀ i, i + 1 < h → P' i = P i) (h1 : P' (h - 1) = P (h - 1) + 1) : ∀ j, h ≤ j → (∀ i, i < j → P i < B) → vS B P j + 1 ≤ vS B P' j := by
  intro j
  induction j with
  | zero => intro hj; omega
  | succ j ih =>
    intro hj hB
    have hBj := hB j (by omega)
    by_cases e : h = j + 1
    · subst e
      unfold vS
      rw [vS_congr (P := P') (P' := P) (fun i hi => he i (by omega))]
      have : P' j = P j + 1 := h1
      omega
    · have hi := ih (by omega) (fun i hi => hB i (by omega))
      unfold vS
      have : (vS B P j + 1) * B ≤ vS B P' j * B := Nat.mul_le_mul_right B hi
      rw [Nat.add_mul, Nat.one_mul] at this
      omega
theorem nxtS_less {N K : Nat} {P : Nat → Nat} (hK : K ≤ N) (hr : RisS N K P) (h0 : 0 < hiI N K P K) : (N + 1) ^ K - vS (N + 1) (nxtS N K P) K < (N + 1) ^ K - vS (N + 1) P K := by
  have hB : ∀ i, i < K → P i < N + 1 := fun i hi => by have := hr i hi; omega
  have hB' : ∀ i, i < K → nxtS N K P i < N + 1 := fun i hi => by have := hr.nxt h0 i hi; omega
  have h1 := vS_step (B := N + 1) (P := P) (P' := nxtS N K P) h0 (fun i hi => by unfold nxtS; rw [if_pos hi]) (by
    unfold nxtS; rw [if_neg (by omega)]; omega) K (hiI_le N K P K) hB
  have h2 := vS_lt hB'
  omega
end Go.Proofs.Ytejliecmdkmgiaa
namespace Go.Proofs.Ytejliecmdkmgiaa
open Go.RowKit
def SkL (w : World) (base : Nat) (v : Value) (k c : Nat) : Prop := OwnL w base 3 v (if k < c then c - 1 else c) (fun i => .int .i64 (laZ.sk k i : Nat))
theorem SkL.start (w : World) (base k : Nat) : SkL w base (.slice none 0 0) k 0 := ⟨rfl, Or.inl ⟨rfl, rfl⟩⟩
theorem SkL.parts {w : World} {base : Nat} {v : Value} {k c : Nat} (h : SkL w base v k c) : ∃ a m cap, v = .slice a m cap := by
  obtain ⟨a, cap, e, -⟩ := OwnL.slice h
  exact ⟨a, _, cap, e⟩
theorem SkL.skip {w : World} {base : Nat} {v : Value} {k : Nat} (h : SkL w base v k k) : SkL w base v k (k + 1) := by
  unfold SkL at *
  rw [if_pos (by omega), show k + 1 - 1 = k by omega]
  rw [if_neg (by omega)] at h
  exact h
theorem SkL.full {w : World} {base : Nat} {v : Value} {k n : Nat} (h : SkL w base v k n) (hk : k < n) (hn : n ≤ 64) : RdI64 w v (n - 1) (laZ.sk k) := by
  unfold SkL at h
  rw [if_pos hk] at h
  exact (own_fr (k := .i64) (f := fun i => (laZ.sk k i : Int)) h (by omega)).read
end Go.Proofs.Ytejliecmdkmgiaa
namespace Go.Proofs.Ytejliecmdkmgiaa
open Go.RowKit
def NumL (w : World) (base : Nat) (v : Value) (n : Nat) (P : Nat → Nat) : Prop := OwnL w base 3 v n (fun i => .int .i64 (P i : Nat))
theorem NumL.read {w : World} {base : Nat} {v : Value} {n : Nat} {P : Nat → Nat} (h : NumL w base v n P) (hn : n ≤ 64) : RdI64 w v n P := (own_fr (k := .i64) (f := fun i => (P i : Int)) h (by omega)).read
theorem NumL.below {w w' : World} {base : Nat} {v : Value} {n : Nat} {P : Nat → Nat} (h : NumL w base v n P) (hb : Below w.heap.size w w') : NumL w' base v n P := own_below h hb
theorem NumL.congr {w : World} {base : Nat} {v : Value} {n : Nat} {P P' : Nat → Nat} (h : NumL w base v n P) (e : ∀ i, i < n → P i = P' i) : NumL w base v n P' := OwnL.congr h fun i hi => by rw [e i hi]
theorem NumL.row {w : World} {base : Nat} {v : Value} {n : Nat} {P : Nat → Nat} (h : NumL w base v n P) (hn : 0 < n) : ∃ g cap, v = .slice (some ⟨g, 0, none⟩) n cap ∧ base ≤ g ∧ n ≤ cap ∧ cap ≤ maxLen ∧ RowAt .i64 w g 0 n (fun i => (P i : Int)) ∧ Blk w g cap 3 := by
  obtain ⟨h0, h⟩ := id h
  rcases h with ⟨rfl, h⟩ | ⟨g, cap, cur, rfl, h2, h3, h4, h5, h6, h7⟩
  · omega
  · obtain ⟨g', cap', e, -, -, -, hc⟩ := OwnL.cell h hn
    simp only [Value.slice.injEq, Option.some.injEq, Addr.mk.injEq, and_true, true_and] at e
    obtain ⟨rfl, rfl⟩ := e
    exact ⟨g, cap, rfl, h2, h4, h5, fun i hi => by rw [Nat.zero_add]; exact hc i hi, cur, h3, by omega⟩
end Go.Proofs.Ytejliecmdkmgiaa
namespace Go.Proofs.Ytejliecmdkmgiaa
open Go.RowKit
theorem mk_nums' (n : Nat) (hn : n ≤ 17592186044416) (u : World) : (Instr.makeSlice 70 (.int .i64 n) (.int .i64 n)).run Try.prog u =
    .ok (.slice (some ⟨u.heap.size, 0, none⟩) n n) (u.alloc (.cells (madeCells #[.int .i64 0] n) 3)) := mk_nums n n (Nat.le_refl _) hn u
end Go.Proofs.Ytejliecmdkmgiaa
namespace Go.Proofs.Ytejliecmdkmgiaa
def bn : Nat → Nat → Nat
  | _, 0 => 1
  | 0, _ + 1 => 0
  | n + 1, k + 1 => bn n k + bn n (k + 1)
theorem bn_zero (n : Nat) : bn n 0 = 1 := by cases n <;> rfl
theorem bn_succ (n k : Nat) : bn (n + 1) (k + 1) = bn n k + bn n (k + 1) := rfl
theorem bn_high : ∀ {n k : Nat}, n < k → bn n k = 0
  | 0, 0, h => absurd h (by omega)
  | 0, _ + 1, _ => rfl
  | _ + 1, 0, h => absurd h (by omega)
  | n + 1, k + 1, h => by rw [bn_succ, bn_high (n := n) (k := k) (by omega), bn_high (n := n) (k := k + 1) (by omega)]
theorem bn_self : ∀ n : Nat, bn n n = 1
  | 0 => rfl
  | n + 1 => by rw [bn_succ, bn_self n, bn_high (by omega)]
theorem bn_pos : ∀ {n k : Nat}, k ≤ n → 0 < bn n k
  | n, 0, _ => by rw [bn_zero]; omega
  | 0, _ + 1, h => absurd h (by omega)
  | n + 1, k + 1, h => by rw [bn_succ]; have := bn_pos (n := n) (k := k) (by omega); omega
theorem bn_lt : ∀ (n k : Nat), bn (n + 3) k < 2 ^ (n + 2)
  | 0, k => by
    match k with
    | 0 => decide
    | 1 => decide
    | 2 => decide
    | 3 => decide
    | k + 4 => rw [bn_high (by omega)]; decide
  | n + 1, 0 => by rw [bn_zero]; exact Nat.one_lt_two_pow (by omega)
  | n + 1, k + 1 => by
    have h0 : bn (n + 1 + 3) (k + 1) = bn (n + 3) k + bn (n + 3) (k + 1) := rfl
    have h1 := bn_lt n k
    have h2 := bn_lt n (k + 1)
    have h3 : 2 ^ (n + 1 + 2) = 2 ^ (n + 2) * 2 := Nat.pow_succ ..
    omega
theorem bn_mono (n k : Nat) : bn n k ≤ bn (n + 1) k := by
  cases k with
  | zero => rw [bn_zero, bn_zero]; exact Nat.le_refl _
  | succ k => rw [bn_succ]; omega
theorem bn_mono' {m : Nat} (k : Nat) : ∀ {n}, m ≤ n → bn m k ≤ bn n k
  | 0, h => by obtain rfl : m = 0 := by omega
               exact Nat.le_refl _
  | n + 1, h => by
    by_cases e : m = n + 1
    · rw [e]; exact Nat.le_refl _
    · exact Nat.le_trans (bn_mono' k (n := n) (by omega)) (bn_mono n k)
theorem bn_64 {n : Nat} (k : Nat) (hn : n ≤ 64) : bn n k < 9223372036854775808 :=
  Nat.lt_of_le_of_lt (bn_mono' k hn) (bn_lt 61 k)
def rmS (N K : Nat) (P : Nat → Nat) : Nat → Nat
  | 0 => 0
  | k + 1 => bn (N - 1 - P (K - (k + 1))) (k + 1) + rmS N K P k
theorem rmS_run (N K : Nat) (P : Nat → Nat) : ∀ (k b : Nat), k ≤ K → b + k ≤ N → (∀ d, d < k → P (K - k + d) = b + d) → rmS N K P k + 1 = bn (N - b) k
  | 0, b, _, _, _ => by rw [bn_zero]; rfl
  | k + 1, b, hk, hb, hP => by
    have h0 : P (K - (k + 1)) = b := hP 0 (by omega)
    have ih := rmS_run N K P k (b + 1) (by omega) (by omega) (fun d hd => by
      have := hP (d + 1) (by omega)
      rw [show K - k + d = K - (k + 1) + (d + 1) by omega, this]; omega)
    unfold rmS
    rw [h0, Nat.add_assoc, ih, show N - b = (N - 1 - b) + 1 by omega, bn_succ, show N - (b + 1) = N - 1 - b by omega, Nat.add_comm]
theorem rmS_nxt {N K : Nat} {P : Nat → Nat} (hK : K ≤ N) (hr : RisS N K P) (h0 : 0 < hiI N K P K) : rmS N K (nxtS N K P) K + 1 = rmS N K P K := by
  have hk := hiI_le N K P K
  have hne := hiI_ne N K P K h0
  obtain ⟨h, hh⟩ : ∃ h, h = hiI N K P K := ⟨_, rfl⟩
  have hhi := hiI_high N K P K
  rw [← hh] at h0 hk hne hhi
  have hp := hr (h - 1) (by omega)
  have key : ∀ j, K - (h - 1) + j ≤ K → rmS N K (nxtS N K P) (K - (h - 1) + j) + 1 = rmS N K P (K - (h - 1) + j) := by
    intro j
    induction j with
    | zero =>
      intro _
      have h1 := rmS_run N K (nxtS N K P) (K - (h - 1)) (P (h - 1) + 1) (by omega) (by omega) (fun d hd => by
        unfold nxtS
        rw [← hh, if_neg (by omega)]
        omega)
      have h2 := rmS_run N K P (K - h) (N - K + h) (by omega) (by omega) (fun d hd => by rw [hhi _ (by omega) (by omega)]; omega)
      rw [show N - (N - K + h) = K - h by omega, bn_self] at h2
      show rmS N K (nxtS N K P) (K - (h - 1)) + 1 = rmS N K P (K - (h - 1))
      rw [h1]
      obtain ⟨k, hk2⟩ : ∃ k, K - h = k := ⟨_, rfl⟩
      rw [show K - (h - 1) = k + 1 by omega] at *
      rw [hk2] at h2
      show _ = bn (N - 1 - P (K - (k + 1))) (k + 1) + rmS N K P k
      rw [show K - (k + 1) = h - 1 by omega, show rmS N K P k = 0 by omega, show N - (P (h - 1) + 1) = N - 1 - P (h - 1) by omega]
      rfl
    | succ j ih =>
      intro hj
      have ih := ih (by omega)
      show bn (N - 1 - nxtS N K P (K - (K - (h - 1) + j + 1))) (K - (h - 1) + j + 1) + rmS N K (nxtS N K P) (K - (h - 1) + j) + 1 = bn (N - 1 - P (K - (K - (h - 1) + j + 1))) (K - (h - 1) + j + 1) + rmS N K P (K - (h - 1) + j)
      rw [show nxtS N K P (K - (K - (h - 1) + j + 1)) = P (K - (K - (h - 1) + j + 1)) by unfold nxtS; rw [← hh, if_pos (by omega)]]
      omega
  have := key (h - 1) (by omega)
  rwa [show K - (h - 1) + (h - 1) = K by omega] at this
theorem rmS_set {N K : Nat} (hK : K ≤ N) : ∀ t, (∀ s, s < t → ¬ LastS N K s) → rmS N K (setS N K t) K + t + 1 = bn N K
  | 0, _ => by
    have := rmS_run N K (setS N K 0) K 0 (Nat.le_refl _) (by omega) (fun d _ => by show K - K + d = _; omega)
    rw [Nat.sub_zero] at this
    exact this
  | t + 1, h => by
    have ih := rmS_set hK t (fun s hs => h s (by omega))
    have := rmS_nxt hK (setS_ris hK t (fun s hs => h s (by omega))) (Nat.pos_of_ne_zero (h t (by omega)))
    show rmS N K (nxtS N K (setS N K t)) K + (t + 1) + 1 = _
    omega
theorem last_bn {N K t : Nat} (hK : K ≤ N) (h : ∀ s, s < t → ¬ LastS N K s) (hl : LastS N K t) : t + 1 = bn N K := by
  have h1 := rmS_set hK t h
  have h2 := rmS_run N K (setS N K t) K (N - K) (Nat.le_refl _) (by omega) (fun d hd => by
    rw [show K - K + d = d by omega]
    exact hiI_high N K _ K d (by unfold LastS at hl; omega) hd)
  rw [show N - (N - K) = K by omega, bn_self] at h2
  omega
theorem not_last {N K t : Nat} (hK : K ≤ N) (h : ∀ s, s < t → ¬ LastS N K s) (ht : t + 1 < bn N K) : ¬ LastS N K t := fun e => by
  have := last_bn hK h e; omega
theorem no_last {N K : Nat} (hK : K ≤ N) : ∀ {t}, t < bn N K → ∀ s, s < t → ¬ LastS N K s
  | 0, _, s, hs => absurd hs (by omega)
  | t + 1, ht, s, hs => by
    have ih := no_last hK (t := t) (by omega)
    by_cases e : s = t
    · rw [e]; exact not_last hK ih (by omega)
    · exact ih s (by omega)
theorem is_last {N K t : Nat} (hK : K ≤ N) (ht : t + 1 = bn N K) : LastS N K t := by
  have h1 := rmS_set hK t (no_last hK (by omega))
  unfold LastS
  by_cases e : hiI N K (setS N K t) K = 0
  · exact e
  · have := rmS_nxt hK (setS_ris hK t (no_last hK (by omega))) (Nat.pos_of_ne_zero e)
    omega
end Go.Proofs.Ytejliecmdkmgiaa
namespace Go.Proofs.Ytejliecmdkmgiaa
open Go.RowKit Go.Shelf
def WLn (w : World) (base : Nat) (v : Value) (t K N : Nat) : Prop := ∃ F : Nat → Value, OwnL w base 70 v t F ∧ ∀ i, i < t → NumL w base (F i) K (setS N K i)
section
variable {w w' : World} {base t K N : Nat} {v : Value}
theorem WLn.below (h : WLn w base v t K N) (hb : Below w.heap.size w w') : WLn w' base v t K N := by
  obtain ⟨F, h1, h2⟩ := h
  exact ⟨F, own_below h1 hb, fun i hi => (h2 i hi).below hb⟩
theorem tagNS : 3 ≠ 70 := by decide
theorem NumL.lists {u : Value} {P : Nat → Nat} {B n : Nat} {xs : List Value} (h : NumL w base u K P) (hown : w.ownsRow B 70 1 v n xs) (hg : w.grownBy w' v.ownBlock) : NumL w' base u K P := by
  refine OwnL.grow h hg fun b hb e => ?_
  rcases own_sep hown h tagNS with h1 | h1
  · rw [h1] at hb; injection hb
  · exact h1 (by rw [hb, e])
theorem WLn.push {w1 : World} {u v' : Value} {F : Nat → Value} (h1 : OwnL w1 base 70 v t F) (h2 : ∀ i, i < t → NumL w1 base (F i) K (setS N K i)) (hu : NumL w1 base u K (setS N K t))
    (g1 : w'.ownsRow base 70 1 v' (t + 1) ((List.range t).map F ++ [u])) (g2 : w1.grownBy w' v.ownBlock) : WLn w' base v' (t + 1) K N ∧ NumL w' base u K (setS N K t) := by
  have hu' := hu.lists h1 g2
  refine ⟨⟨fun i => if i = t then u else F i, ?_, fun i hi => ?_⟩, hu'⟩
  · unfold OwnL
    rw [List.range_succ, List.map_append]
    have e : (List.range t).map (fun i => if i = t then u else F i) = (List.range t).map F := List.map_congr_left fun i hi => if_neg (by have := List.mem_range.1 hi; omega)
    rw [e]
    simpa using g1
  · by_cases e : i = t
    · subst e
      show NumL w' base (if i = i then u else F i) K (setS N K i)
      rw [if_pos rfl]
      exact hu'
    · show NumL w' base (if i = t then u else F i) K (setS N K i)
      rw [if_neg e]
      exact (h2 i (by omega)).lists h1 g2
theorem WLn.start (w : World) (base K N : Nat) : WLn w base (.slice none 0 0) 0 K N := ⟨fun _ => .slice none 0 0, ⟨rfl, Or.inl ⟨rfl, rfl⟩⟩, fun i hi => absurd hi (by omega)⟩
end
end Go.Proofs.Ytejliecmdkmgiaa
