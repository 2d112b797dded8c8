/- Plain facts on the long division of trellisref03; the walk of divide. -/
import Derived.Test.YtdlpemmoobbgnaaR12
import Derived.Deep.LoopGhost
set_option linter.unusedVariables false
set_option linter.unusedSimpArgs false
namespace Go.Proofs.Ytdlpemmoobbgnaa
open Go.RowKit

/-- at the head of a round of the division: the quotient's places before c are still 0 -/
structure DH (A D : Int) (K S c : Nat) (g qf : Nat → Int) : Prop where
  gb : ∀ t, t < K → 0 ≤ g t ∧ g t < 4294967296
  qb : ∀ t, 0 ≤ qf t ∧ qf t < 4294967296
  low : ∀ t, t < c → qf t = 0
  val : dv 4294967296 g K + dv 4294967296 qf S * D = A
  cap : dv 4294967296 g K < D * 4294967296 ^ c
/-- inside the round -/
structure DI (A D : Int) (K S s : Nat) (g qf : Nat → Int) : Prop where
  gb : ∀ t, t < K → 0 ≤ g t ∧ g t < 4294967296
  qb : ∀ t, 0 ≤ qf t ∧ qf t < 4294967296
  low : ∀ t, t < s → qf t = 0
  val : dv 4294967296 g K + dv 4294967296 qf S * D = A
  cap : dv 4294967296 g K + qf s * D * 4294967296 ^ s < D * 4294967296 ^ (s + 1)

theorem DH.enter {A D : Int} {K S s : Nat} {g qf : Nat → Int} (h : DH A D K S (s + 1) g qf) : DI A D K S s g qf :=
  ⟨h.gb, h.qb, fun t ht => h.low t (by omega), h.val, by rw [h.low s (by omega)]; have := h.cap; simpa using this⟩
theorem DI.leave {A D : Int} {K S s : Nat} {g qf : Nat → Int} (h : DI A D K S s g qf) (hc : dv 4294967296 g K < D * 4294967296 ^ s) : DH A D K S s g qf := ⟨h.gb, h.qb, h.low, h.val, hc⟩

theorem DI.take {A D : Int} {K S s : Nat} {g qf g' : Nat → Int} (h : DI A D K S s g qf) {n : Int} (hD : 0 < D) (hs : s < S) (hn : 0 ≤ n) (hg' : ∀ t, t < K → 0 ≤ g' t ∧ g' t < 4294967296)
    (hv : dv 4294967296 g' K = dv 4294967296 g K - n * D * 4294967296 ^ s) : 0 ≤ qf s + n ∧ qf s + n < 4294967296 ∧ DI A D K S s g' (fun t => if t = s then qf s + n else qf t) := by
  have hp := pow_pos' (show (0 : Int) < 4294967296 by omega) s
  have h0 := (dv_bd (by omega) hg').1
  have hc := h.cap
  have hq := h.qb s
  have hlt : qf s + n < 4294967296 := by
    refine Int.not_le.1 fun hge => ?_
    have h1 : 4294967296 * (D * 4294967296 ^ s) ≤ (qf s + n) * (D * 4294967296 ^ s) := Int.mul_le_mul_of_nonneg_right hge (Int.mul_nonneg (by omega) (by omega))
    rw [Int.pow_succ] at hc
    have e1 : (qf s + n) * (D * 4294967296 ^ s) = qf s * D * 4294967296 ^ s + n * D * 4294967296 ^ s := by grind
    have e2 : 4294967296 * (D * 4294967296 ^ s) = D * (4294967296 ^ s * 4294967296) := by grind
    omega
  refine ⟨by omega, hlt, hg', fun t => ?_, fun t ht => ?_, ?_, ?_⟩
  · split
    · omega
    · exact h.qb t
  · rw [if_neg (by omega)]; exact h.low t ht
  · rw [dv_upd _ _ _ _ hs, hv]
    have := h.val
    grind
  · rw [if_pos rfl, hv]
    have e1 : (qf s + n) * D * 4294967296 ^ s = qf s * D * 4294967296 ^ s + n * D * 4294967296 ^ s := by grind
    omega

theorem DI.high {A D : Int} {K S s m : Nat} {g qf : Nat → Int} (h : DI A D K S s g qf) (hD0 : 0 < D) (hDm : D < 4294967296 ^ m) (t : Nat) (h1 : s + m < t) (h2 : t < K) : g t = 0 := by
  have hb := h.gb t h2
  refine Classical.byContradiction fun hne => ?_
  have hlow := (dv_bd (B := 4294967296) (by omega) (n := t) (fun i hi => h.gb i (by omega))).1
  have hup := up_split g (show t ≤ K by omega)
  have hu1 : g t ≤ up g K t := by
    unfold up
    obtain ⟨e, he⟩ : ∃ e, K - t = e + 1 := ⟨K - t - 1, by omega⟩
    rw [he, show e + 1 = 1 + e by omega, dv_split]
    have := (dv_bd (B := 4294967296) (f := fun i => g (t + (1 + i))) (by omega) (n := e) (fun i hi => h.gb _ (by omega))).1
    simp only [dv, Nat.add_zero, Int.pow_zero, Int.mul_one, Int.zero_add, Int.pow_succ, Int.one_mul]
    omega
  have hpt := pow_pos' (show (0 : Int) < 4294967296 by omega) t
  have h3 : 4294967296 ^ t * 1 ≤ 4294967296 ^ t * up g K t := Int.mul_le_mul_of_nonneg_left (by omega) (by omega)
  have hcap := h.cap
  have hps := pow_pos' (show (0 : Int) < 4294967296 by omega) (s + 1)
  have hq : 0 ≤ qf s * D * 4294967296 ^ s := Int.mul_nonneg (Int.mul_nonneg (h.qb s).1 (by omega)) (by have := pow_pos' (show (0 : Int) < 4294967296 by omega) s; omega)
  have h4 : D * 4294967296 ^ (s + 1) ≤ 4294967296 ^ m * 4294967296 ^ (s + 1) := Int.mul_le_mul_of_nonneg_right (by omega) (by omega)
  rw [← Int.pow_add] at h4
  have h5 := pow_le' (B := 4294967296) (by omega) (show m + (s + 1) ≤ t by omega)
  omega

theorem dec_of {D n x y : Int} {s : Nat} (hD : 0 < D) (hn : 1 ≤ n) (h : x = y - n * D * 4294967296 ^ s) : x < y := by
  have hp := pow_pos' (show (0 : Int) < 4294967296 by omega) s
  have h1 : 0 < n * D := Int.mul_pos (by omega) hD
  have h2 : 0 < n * D * 4294967296 ^ s := Int.mul_pos h1 hp
  omega

/-- what n is at most -/
theorem DI.digit {A D : Int} {K S s m : Nat} {g qf d : Nat → Int} (h : DI A D K S s g qf) (hm : 0 < m) (hd : ∀ t, t < m → 0 ≤ d t ∧ d t < 4294967296) (hDv : dv 4294967296 d m = D) (hD : 0 < D) (hK : s + m < K) :
    0 ≤ (g (s + m - 1) + g (s + m) * 4294967296) / (d (m - 1) + 1) ∧ (g (s + m - 1) + g (s + m) * 4294967296) / (d (m - 1) + 1) * D * 4294967296 ^ s ≤ dv 4294967296 g K ∧
      (g (s + m - 1) + g (s + m) * 4294967296) / (d (m - 1) + 1) < 4294967296 := by
  have hd1 := hd (m - 1) (by omega)
  have g1 := h.gb (s + m - 1) (by omega)
  have g2 := h.gb (s + m) hK
  obtain ⟨T, hT⟩ : ∃ T, T = g (s + m - 1) + g (s + m) * 4294967296 := ⟨_, rfl⟩
  rw [← hT]
  obtain ⟨n, hn⟩ : ∃ n, n = T / (d (m - 1) + 1) := ⟨_, rfl⟩
  rw [← hn]
  have hn0 : 0 ≤ n := by rw [hn]; exact Int.ediv_nonneg (by omega) (by omega)
  have hnT : n * (d (m - 1) + 1) ≤ T := by rw [hn]; exact Int.ediv_mul_le _ (by omega)
  have hDm : D < 4294967296 ^ m := by rw [← hDv]; exact (dv_bd (by omega) hd).2
  -- D is less than (its highest digit + 1) times a power
  have hDh : D ≤ (d (m - 1) + 1) * 4294967296 ^ (m - 1) := by
    rw [← hDv]
    obtain ⟨k, rfl⟩ : ∃ k, m = k + 1 := ⟨m - 1, by omega⟩
    simp only [dv, Nat.add_sub_cancel]
    have := (dv_bd (B := 4294967296) (by omega) (n := k) (fun i hi => hd i (by omega))).2
    rw [Int.add_mul]; omega
  -- the two highest digits of what is left
  have hup : up g K (s + m - 1) = T := by
    have h1 := up_top (g := g) (K := K) (s := s + m - 1) (m := 1) (by omega) (fun t h1 h2 => h.high hD hDm t (by omega) h2)
    rw [h1, hT]
    simp only [dv, Nat.add_zero, Int.pow_zero, Int.mul_one, Int.zero_add, Int.pow_succ, Int.one_mul]
    rw [show s + m - 1 + 1 = s + m by omega]
  have hlow := (dv_bd (B := 4294967296) (by omega) (n := s + m - 1) (fun i hi => h.gb i (by omega))).1
  have hsp := up_split g (show s + m - 1 ≤ K by omega)
  rw [hup] at hsp
  have hp1 := pow_pos' (show (0 : Int) < 4294967296 by omega) (s + m - 1)
  have hps := pow_pos' (show (0 : Int) < 4294967296 by omega) s
  have hpm := pow_pos' (show (0 : Int) < 4294967296 by omega) (m - 1)
  have hle : n * D * 4294967296 ^ s ≤ dv 4294967296 g K := by
    have a1 : n * D ≤ n * ((d (m - 1) + 1) * 4294967296 ^ (m - 1)) := Int.mul_le_mul_of_nonneg_left hDh hn0
    have a2 : n * D * 4294967296 ^ s ≤ n * ((d (m - 1) + 1) * 4294967296 ^ (m - 1)) * 4294967296 ^ s := Int.mul_le_mul_of_nonneg_right a1 (by omega)
    have e1 : n * ((d (m - 1) + 1) * 4294967296 ^ (m - 1)) * 4294967296 ^ s = n * (d (m - 1) + 1) * 4294967296 ^ (s + m - 1) := by
      rw [show s + m - 1 = (m - 1) + s by omega, Int.pow_add]; grind
    have a3 : n * (d (m - 1) + 1) * 4294967296 ^ (s + m - 1) ≤ T * 4294967296 ^ (s + m - 1) := Int.mul_le_mul_of_nonneg_right hnT (by omega)
    rw [Int.mul_comm (4294967296 ^ (s + m - 1))] at hsp
    omega
  refine ⟨hn0, hle, Int.not_le.1 fun hge => ?_⟩
  have hcap := h.cap
  have hq : 0 ≤ qf s * D * 4294967296 ^ s := Int.mul_nonneg (Int.mul_nonneg (h.qb s).1 (by omega)) (by omega)
  have h1 : 4294967296 * (D * 4294967296 ^ s) ≤ n * (D * 4294967296 ^ s) := Int.mul_le_mul_of_nonneg_right hge (Int.mul_nonneg (by omega) (by omega))
  rw [Int.pow_succ] at hcap
  have e1 : n * (D * 4294967296 ^ s) = n * D * 4294967296 ^ s := by grind
  have e2 : 4294967296 * (D * 4294967296 ^ s) = D * (4294967296 ^ s * 4294967296) := by grind
  omega

/-- the memory of the division: the rest in rb, the quotient in qb, the divisor beside them -/
structure DM (w wr : World) (rb qb K S m : Nat) (g qf d : Nat → Int) (y : Value) : Prop where
  r : RowAt .u64 wr rb 0 K g
  q : RowAt .u64 wr qb 0 S qf
  d : RdA .u64 wr y m d
  below : Below w.heap.size w wr

theorem RdA.grown {k : IntKind} {w w' : World} {v : Value} {n : Nat} {f : Nat → Int} (h : RdA k w v n f) {r : Nat} (hg : w.grownBy w' (some r)) (hr : v.ownBlock ≠ some r) : RdA k w' v n f := by
  obtain ⟨a, cap, rfl, h1, h2, h3⟩ := h
  refine ⟨a, cap, rfl, h1, h2, fun hn => ?_⟩
  obtain ⟨b, o, rfl, h4⟩ := h3 hn
  refine ⟨b, o, rfl, fun i hi => hg.cell (h4 i hi) ?_⟩
  intro e; exact hr (by simpa [Value.ownBlock] using e)

theorem DM.put {w wr w' : World} {rb qb K S m : Nat} {g qf d g' : Nat → Int} {y : Value} (h : DM w wr rb qb K S m g qf d y) (hne : qb ≠ rb) (hy : y.ownBlock ≠ some rb) (hrb : w.heap.size ≤ rb) (hr : RowAt .u64 w' rb 0 K g') (hg : wr.grownBy w' (some rb)) :
    DM w w' rb qb K S m g' qf d y :=
  ⟨hr, h.q.gb hg (by simpa using hne), h.d.grown hg hy, h.below.grown hg h.below.size fun k hk => by injection hk with hk; omega⟩
theorem DM.putq {w wr : World} {rb qb K S m : Nat} {g qf d : Nat → Int} {y : Value} (h : DM w wr rb qb K S m g qf d y) (hne : qb ≠ rb) (hy : y.ownBlock ≠ some qb) (hqb : w.heap.size ≤ qb) {s : Nat} (hs : s < S) (v : Int) :
    DM w (wr.setCell ⟨qb, s, none⟩ (.int .u64 v)) rb qb K S m g (fun t => if t = s then v else qf t) d y :=
  ⟨h.r.other (by simpa using hne) _, h.q.set0 hs v, h.d.grown (gb_set wr ⟨qb, s, none⟩ _) hy, h.below.setCell (p := ⟨qb, s, none⟩) hqb _⟩

theorem DM.same {w wr w' : World} {rb qb K S m : Nat} {g qf d : Nat → Int} {y : Value} (h : DM w wr rb qb K S m g qf d y) (hb : Below wr.heap.size wr w') : DM w w' rb qb K S m g qf d y :=
  ⟨h.r.below hb, h.q.below hb, h.d.below hb, h.below.trans (hb.mono h.below.size)⟩

/-- twice the factor -/
theorem fac_step {bt F : Int} {k : Nat} (hb : 1 ≤ bt) (hF : F = 2 ^ k) (hk : k ≤ 31) (hlt : bt * F < 2147483648) : k + 1 ≤ 31 ∧ (bt + 1) * (2 * F) ≤ 4294967296 ∧ 2 * F = 2 ^ (k + 1) := by
  have hp := pow_pos' (show (0 : Int) < 2 by omega) k
  have e : F * 2 ^ (31 - k) = 2147483648 := by rw [hF, ← Int.pow_add, show k + (31 - k) = 31 by omega]; rfl
  rw [← hF] at hp
  have h1 : bt < 2 ^ (31 - k) := by
    refine Int.not_le.1 fun hge => ?_
    have := Int.mul_le_mul_of_nonneg_left hge (show 0 ≤ F by omega)
    rw [Int.mul_comm F bt] at this; omega
  have hk' : k ≤ 30 := by
    refine Nat.le_of_not_lt fun hgt => ?_
    have : k = 31 := by omega
    subst this
    simp at h1; omega
  refine ⟨by omega, ?_, by rw [hF, Int.pow_succ]; omega⟩
  have h2 : F * (bt + 1) ≤ F * 2 ^ (31 - k) := Int.mul_le_mul_of_nonneg_left (by omega) (by omega)
  have : (bt + 1) * (2 * F) = 2 * (F * (bt + 1)) := by grind
  omega

/-- the end: the rest is divided by the factor, from the top -/
structure DF (g : Nat → Int) (F : Int) (K c : Nat) (h : Nat → Int) (rho : Int) : Prop where
  hb : ∀ t, t < K → 0 ≤ h t ∧ h t < 4294967296
  rb : 0 ≤ rho ∧ rho < F
  low : ∀ t, t < c → h t = g t
  val : rho + F * up h K c = up g K c

theorem up_step (g : Nat → Int) {K c : Nat} (hc : c < K) : up g K c = g c + 4294967296 * up g K (c + 1) := by
  unfold up
  obtain ⟨e, he⟩ : ∃ e, K - c = 1 + e := ⟨K - c - 1, by omega⟩
  rw [he, dv_split, show K - (c + 1) = e by omega]
  simp only [dv, Nat.add_zero, Int.pow_zero, Int.mul_one, Int.zero_add, Int.pow_succ, Int.one_mul]
  congr 2
  exact dv_congr fun i _ => by rw [show c + (1 + i) = c + 1 + i by omega]

theorem DF.step {g h : Nat → Int} {F rho : Int} {K c : Nat} (hd : DF g F K (c + 1) h rho) (hc : c < K) (hg : ∀ t, t < K → 0 ≤ g t ∧ g t < 4294967296) (hF : 0 < F ∧ F ≤ 4294967296) :
    0 ≤ rho * 4294967296 + g c ∧ rho * 4294967296 + g c ≤ 18446744073709551615 ∧ 0 ≤ (rho * 4294967296 + g c) / F ∧ (rho * 4294967296 + g c) / F < 4294967296 ∧
      DF g F K c (fun t => if t = c then (rho * 4294967296 + g c) / F else h t) ((rho * 4294967296 + g c) % F) := by
  have hgc := hg c hc
  have hr := hd.rb
  have h0 : 0 ≤ (rho * 4294967296 + g c) / F := Int.ediv_nonneg (by omega) (by omega)
  have h1 : (rho * 4294967296 + g c) / F < 4294967296 := by
    refine Int.ediv_lt_of_lt_mul (by omega) ?_
    have : (rho + 1) * 4294967296 ≤ F * 4294967296 := Int.mul_le_mul_of_nonneg_right (by omega) (by omega)
    omega
  refine ⟨by omega, by omega, h0, h1, fun t ht => ?_, ⟨Int.emod_nonneg _ (by omega), Int.emod_lt_of_pos _ (by omega)⟩, fun t ht => ?_, ?_⟩
  · split
    · exact ⟨h0, h1⟩
    · exact hd.hb t ht
  · rw [if_neg (by omega)]; exact hd.low t (by omega)
  · rw [up_step _ hc, up_step g hc, if_pos rfl]
    have e : up (fun t => if t = c then (rho * 4294967296 + g c) / F else h t) K (c + 1) = up h K (c + 1) := by
      unfold up; exact dv_congr fun i _ => if_neg (by omega)
    rw [e, ← hd.val]
    have := Int.emod_add_mul_ediv (rho * 4294967296 + g c) F
    grind

theorem DF.start {g : Nat → Int} {F : Int} {K : Nat} (hg : ∀ t, t < K → 0 ≤ g t ∧ g t < 4294967296) (hF : 0 < F) : DF g F K K g 0 := ⟨hg, by omega, fun _ _ => rfl, by unfold up; rw [Nat.sub_self]; simp [dv]⟩

/-- quotient and rest -/
theorem div_end {A D F : Int} {K S : Nat} {g qf h : Nat → Int} {rho : Int} (hA : 0 ≤ A) (hD : 0 < D) (hF : 0 < F) (hh : DH (A * F) (D * F) K S 0 g qf) (hf : DF g F K 0 h rho) :
    dv 4294967296 qf S = A / D ∧ dv 4294967296 h K = A % D := by
  have hv := hh.val
  have hc := hh.cap
  have hfv := hf.val
  have hr := hf.rb
  have hu : ∀ x : Nat → Int, up x K 0 = dv 4294967296 x K := fun x => by unfold up; rw [Nat.sub_zero]; exact dv_congr fun i _ => by rw [Nat.zero_add]
  rw [hu, hu] at hfv
  obtain ⟨Q, hQ⟩ : ∃ Q, Q = dv 4294967296 qf S := ⟨_, rfl⟩
  obtain ⟨R, hR⟩ : ∃ R, R = dv 4294967296 h K := ⟨_, rfl⟩
  rw [← hQ] at hv ⊢
  rw [← hR] at hfv ⊢
  have hR0 : 0 ≤ R := by rw [hR]; exact (dv_bd (by omega) hf.hb).1
  rw [← hfv] at hv hc
  rw [Int.pow_zero, Int.mul_one] at hc
  -- rho is a multiple of F
  have e1 : rho = F * (A - Q * D - R) := by grind
  have e2 : A - Q * D - R = 0 := by
    rcases (by omega : A - Q * D - R = 0 ∨ 1 ≤ A - Q * D - R ∨ A - Q * D - R ≤ -1) with c | c | c
    · exact c
    · have := Int.mul_le_mul_of_nonneg_left c (show 0 ≤ F by omega); omega
    · have := Int.mul_le_mul_of_nonneg_left c (show 0 ≤ F by omega); omega
  have hlt : R < D := by
    refine Int.not_le.1 fun hge => ?_
    have := Int.mul_le_mul_of_nonneg_left hge (show 0 ≤ F by omega)
    rw [Int.mul_comm D F] at hc; omega
  have he : A = R + D * Q := by grind
  constructor
  · rw [he, Int.add_mul_ediv_left _ _ (by omega), Int.ediv_eq_zero_of_lt hR0 hlt]; omega
  · rw [he, Int.add_mul_emod_self_left, Int.emod_eq_of_lt hR0 hlt]

end Go.Proofs.Ytdlpemmoobbgnaa
