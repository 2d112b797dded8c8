/- The walks of trellisref03.Trim, halves, words, scaled. The walks of trellisref03.words, scaled. The walks of trellisref03.goes, takeOff. Plain facts on the long division of trellisref03; the walk of divide. The walk of trellisref03.divide. The walks of trellisref03.DivMod, trellisref05.Trunc, Euclid, Mod. The walk of trellisref05.Trunc. -/
import Derived.Test.YtdlpemmoobbgnaaGC
import Derived.Deep.LoopGhost
import Derived.Deep.RegionWith
set_option linter.unusedVariables false
set_option linter.unusedSimpArgs false
namespace Go.Proofs.Ytdlpemmoobbgnaa
open Go.RowKit

/-- fresh digits of the number N to the base 2^32 -/
def FrH (w : World) (base : Nat) (v : Value) (N : Int) : Prop := ∃ n f, FrA .u64 22 w base v n f ∧ Dig 4294967296 n f N

/-- the two digits to the base 2^32 of each word -/
def hv (f : Nat → Int) (t : Nat) : Int := if t % 2 = 0 then f (t / 2) % 4294967296 else f (t / 2) / 4294967296
end Go.Proofs.Ytdlpemmoobbgnaa

namespace Go.Proofs.Ytdlpemmoobbgnaa
open Go.RowKit

/-- the carries and digits of a multiple -/
def sc (f : Nat → Int) (F : Int) : Nat → Int
  | 0 => 0
  | i + 1 => (f i * F + sc f F i) / 4294967296
def sg (f : Nat → Int) (F : Int) (i : Nat) : Int := (f i * F + sc f F i) % 4294967296
end Go.Proofs.Ytdlpemmoobbgnaa

namespace Go.Proofs.Ytdlpemmoobbgnaa
open Go.RowKit

/-- the number that stands from the place s on -/
def up (g : Nat → Int) (K s : Nat) : Int := dv 4294967296 (fun t => g (s + t)) (K - s)

theorem up_split (g : Nat → Int) {K s : Nat} (h : s ≤ K) : dv 4294967296 g K = dv 4294967296 g s + 4294967296 ^ s * up g K s := by
  have := dv_split 4294967296 g s (K - s)
  rw [show s + (K - s) = K by omega] at this; exact this
/-- with one place more than b has, or none -/
theorem up_top {g : Nat → Int} {K s m : Nat} (hs : s + m < K) (hz : ∀ t, s + m < t → t < K → g t = 0) : up g K s = dv 4294967296 (fun t => g (s + t)) m + g (s + m) * 4294967296 ^ m := by
  unfold up
  rw [dv_more (m := m + 1) (by omega) (fun i h1 h2 => hz (s + i) (by omega) (by omega))]
  rfl

/-- q times the digits of d taken off from g0's place s on, as far as i places -/
structure TO (g0 d : Nat → Int) (q : Int) (s m K i : Nat) (g : Nat → Int) (c : Int) : Prop where
  bd : ∀ t, t < K → 0 ≤ g t ∧ g t < 4294967296
  cb : 0 ≤ c ∧ c ≤ 4294967296
  rest : ∀ t, s + i ≤ t → g t = g0 t
  val : dv 4294967296 g K - c * 4294967296 ^ (s + i) = dv 4294967296 g0 K - q * dv 4294967296 (zx d m) i * 4294967296 ^ s

theorem TO.step {g0 d : Nat → Int} {q : Int} {s m K i : Nat} {g : Nat → Int} {c : Int} (h : TO g0 d q s m K i g c) (hK : s + i < K) (hq : 0 ≤ q ∧ q < 4294967296) (hd : ∀ t, t < m → 0 ≤ d t ∧ d t < 4294967296) {v c' : Int}
    (hv : v - c' * 4294967296 = g (s + i) - (c + q * zx d m i)) (hvb : 0 ≤ v ∧ v < 4294967296) (hcb : 0 ≤ c' ∧ c' ≤ 4294967296) : TO g0 d q s m K (i + 1) (fun t => if t = s + i then v else g t) c' := by
  refine ⟨fun t ht => ?_, hcb, fun t ht => ?_, ?_⟩
  · split
    · exact hvb
    · exact h.bd t ht
  · rw [if_neg (by omega)]; exact h.rest t (by omega)
  · rw [dv_upd _ _ _ _ hK, show s + (i + 1) = s + i + 1 by omega, Int.pow_succ]
    have h1 := h.val
    simp only [dv]
    have hp : (4294967296 : Int) ^ (s + i) = 4294967296 ^ s * 4294967296 ^ i := Int.pow_add _ _ _
    rw [hp] at h1 ⊢
    grind

theorem TO.stop {g0 d : Nat → Int} {q : Int} {s m K i : Nat} {g : Nat → Int} {c : Int} (h : TO g0 d q s m K i g c) (hsm : s + m ≤ K) (hle : q * dv 4294967296 d m * 4294967296 ^ s ≤ dv 4294967296 g0 K)
    (hi : (m ≤ i ∧ c = 0) ∨ s + i = K) : dv 4294967296 g K = dv 4294967296 g0 K - q * dv 4294967296 d m * 4294967296 ^ s := by
  have hv := h.val
  have hmi : m ≤ i := by omega
  rw [zx_dv hmi] at hv
  rcases hi with ⟨_, rfl⟩ | e
  · omega
  · have hb := dv_bd (by omega) h.bd
    rw [e] at hv
    have hp := pow_pos' (show (0 : Int) < 4294967296 by omega) K
    have hc := h.cb
    rcases (by omega : c = 0 ∨ 1 ≤ c) with r | r
    · rw [r] at hv; omega
    · exfalso
      have : 1 * (4294967296 : Int) ^ K ≤ c * 4294967296 ^ K := Int.mul_le_mul_of_nonneg_right r (by omega)
      omega

end Go.Proofs.Ytdlpemmoobbgnaa

namespace Go.Proofs.Ytdlpemmoobbgnaa
open Go.RowKit

/-- inside the round -/
structure DI (A D : Int) (K S s : Nat) (g qf : Nat → Int) : Prop where
  gb : ∀ t, t < K → 0 ≤ g t ∧ g t < 4294967296
  qb : ∀ t, 0 ≤ qf t ∧ qf t < 4294967296
  low : ∀ t, t < s → qf t = 0
  val : dv 4294967296 g K + dv 4294967296 qf S * D = A
  cap : dv 4294967296 g K + qf s * D * 4294967296 ^ s < D * 4294967296 ^ (s + 1)

theorem DI.take {A D : Int} {K S s : Nat} {g qf g' : Nat → Int} (h : DI A D K S s g qf) {n : Int} (hD : 0 < D) (hs : s < S) (hn : 0 ≤ n) (hg' : ∀ t, t < K → 0 ≤ g' t ∧ g' t < 4294967296)
    (hv : dv 4294967296 g' K = dv 4294967296 g K - n * D * 4294967296 ^ s) : 0 ≤ qf s + n ∧ qf s + n < 4294967296 ∧ DI A D K S s g' (fun t => if t = s then qf s + n else qf t) := by
  have hp := pow_pos' (show (0 : Int) < 4294967296 by omega) s
  have h0 := (dv_bd (by omega) hg').1
  have hc := h.cap
  have hq := h.qb s
  have hlt : qf s + n < 4294967296 := by
    refine Int.not_le.1 fun hge => ?_
    have h1 : 4294967296 * (D * 4294967296 ^ s) ≤ (qf s + n) * (D * 4294967296 ^ s) := Int.mul_le_mul_of_nonneg_right hge (Int.mul_nonneg (by omega) (by omega))
    rw [Int.pow_succ] at hc
    have e1 : (qf s + n) * (D * 4294967296 ^ s) = qf s * D * 4294967296 ^ s + n * D * 4294967296 ^ s := by grind
    have e2 : 4294967296 * (D * 4294967296 ^ s) = D * (4294967296 ^ s * 4294967296) := by grind
    omega
  refine ⟨by omega, hlt, hg', fun t => ?_, fun t ht => ?_, ?_, ?_⟩
  · split
    · omega
    · exact h.qb t
  · rw [if_neg (by omega)]; exact h.low t ht
  · rw [dv_upd _ _ _ _ hs, hv]
    have := h.val
    grind
  · rw [if_pos rfl, hv]
    have e1 : (qf s + n) * D * 4294967296 ^ s = qf s * D * 4294967296 ^ s + n * D * 4294967296 ^ s := by grind
    omega

theorem DI.high {A D : Int} {K S s m : Nat} {g qf : Nat → Int} (h : DI A D K S s g qf) (hD0 : 0 < D) (hDm : D < 4294967296 ^ m) (t : Nat) (h1 : s + m < t) (h2 : t < K) : g t = 0 := by
  have hb := h.gb t h2
  refine Classical.byContradiction fun hne => ?_
  have hlow := (dv_bd (B := 4294967296) (by omega) (n := t) (fun i hi => h.gb i (by omega))).1
  have hup := up_split g (show t ≤ K by omega)
  have hu1 : g t ≤ up g K t := by
    unfold up
    obtain ⟨e, he⟩ : ∃ e, K - t = e + 1 := ⟨K - t - 1, by omega⟩
    rw [he, show e + 1 = 1 + e by omega, dv_split]
    have := (dv_bd (B := 4294967296) (f := fun i => g (t + (1 + i))) (by omega) (n := e) (fun i hi => h.gb _ (by omega))).1
    simp only [dv, Nat.add_zero, Int.pow_zero, Int.mul_one, Int.zero_add, Int.pow_succ, Int.one_mul]
    omega
  have hpt := pow_pos' (show (0 : Int) < 4294967296 by omega) t
  have h3 : 4294967296 ^ t * 1 ≤ 4294967296 ^ t * up g K t := Int.mul_le_mul_of_nonneg_left (by omega) (by omega)
  have hcap := h.cap
  have hps := pow_pos' (show (0 : Int) < 4294967296 by omega) (s + 1)
  have hq : 0 ≤ qf s * D * 4294967296 ^ s := Int.mul_nonneg (Int.mul_nonneg (h.qb s).1 (by omega)) (by have := pow_pos' (show (0 : Int) < 4294967296 by omega) s; omega)
  have h4 : D * 4294967296 ^ (s + 1) ≤ 4294967296 ^ m * 4294967296 ^ (s + 1) := Int.mul_le_mul_of_nonneg_right (by omega) (by omega)
  rw [← Int.pow_add] at h4
  have h5 := pow_le' (B := 4294967296) (by omega) (show m + (s + 1) ≤ t by omega)
  omega

/-- what n is at most -/
theorem DI.digit {A D : Int} {K S s m : Nat} {g qf d : Nat → Int} (h : DI A D K S s g qf) (hm : 0 < m) (hd : ∀ t, t < m → 0 ≤ d t ∧ d t < 4294967296) (hDv : dv 4294967296 d m = D) (hD : 0 < D) (hK : s + m < K) :
    0 ≤ (g (s + m - 1) + g (s + m) * 4294967296) / (d (m - 1) + 1) ∧ (g (s + m - 1) + g (s + m) * 4294967296) / (d (m - 1) + 1) * D * 4294967296 ^ s ≤ dv 4294967296 g K ∧
      (g (s + m - 1) + g (s + m) * 4294967296) / (d (m - 1) + 1) < 4294967296 := by
  have hd1 := hd (m - 1) (by omega)
  have g1 := h.gb (s + m - 1) (by omega)
  have g2 := h.gb (s + m) hK
  obtain ⟨T, hT⟩ : ∃ T, T = g (s + m - 1) + g (s + m) * 4294967296 := ⟨_, rfl⟩
  rw [← hT]
  obtain ⟨n, hn⟩ : ∃ n, n = T / (d (m - 1) + 1) := ⟨_, rfl⟩
  rw [← hn]
  have hn0 : 0 ≤ n := by rw [hn]; exact Int.ediv_nonneg (by omega) (by omega)
  have hnT : n * (d (m - 1) + 1) ≤ T := by rw [hn]; exact Int.ediv_mul_le _ (by omega)
  have hDm : D < 4294967296 ^ m := by rw [← hDv]; exact (dv_bd (by omega) hd).2
  -- D is less than (its highest digit + 1) times a power
  have hDh : D ≤ (d (m - 1) + 1) * 4294967296 ^ (m - 1) := by
    rw [← hDv]
    obtain ⟨k, rfl⟩ : ∃ k, m = k + 1 := ⟨m - 1, by omega⟩
    simp only [dv, Nat.add_sub_cancel]
    have := (dv_bd (B := 4294967296) (by omega) (n := k) (fun i hi => hd i (by omega))).2
    rw [Int.add_mul]; omega
  -- the two highest digits of what is left
  have hup : up g K (s + m - 1) = T := by
    have h1 := up_top (g := g) (K := K) (s := s + m - 1) (m := 1) (by omega) (fun t h1 h2 => h.high hD hDm t (by omega) h2)
    rw [h1, hT]
    simp only [dv, Nat.add_zero, Int.pow_zero, Int.mul_one, Int.zero_add, Int.pow_succ, Int.one_mul]
    rw [show s + m - 1 + 1 = s + m by omega]
  have hlow := (dv_bd (B := 4294967296) (by omega) (n := s + m - 1) (fun i hi => h.gb i (by omega))).1
  have hsp := up_split g (show s + m - 1 ≤ K by omega)
  rw [hup] at hsp
  have hp1 := pow_pos' (show (0 : Int) < 4294967296 by omega) (s + m - 1)
  have hps := pow_pos' (show (0 : Int) < 4294967296 by omega) s
  have hpm := pow_pos' (show (0 : Int) < 4294967296 by omega) (m - 1)
  have hle : n * D * 4294967296 ^ s ≤ dv 4294967296 g K := by
    have a1 : n * D ≤ n * ((d (m - 1) + 1) * 4294967296 ^ (m - 1)) := Int.mul_le_mul_of_nonneg_left hDh hn0
    have a2 : n * D * 4294967296 ^ s ≤ n * ((d (m - 1) + 1) * 4294967296 ^ (m - 1)) * 4294967296 ^ s := Int.mul_le_mul_of_nonneg_right a1 (by omega)
    have e1 : n * ((d (m - 1) + 1) * 4294967296 ^ (m - 1)) * 4294967296 ^ s = n * (d (m - 1) + 1) * 4294967296 ^ (s + m - 1) := by
      rw [show s + m - 1 = (m - 1) + s by omega, Int.pow_add]; grind
    have a3 : n * (d (m - 1) + 1) * 4294967296 ^ (s + m - 1) ≤ T * 4294967296 ^ (s + m - 1) := Int.mul_le_mul_of_nonneg_right hnT (by omega)
    rw [Int.mul_comm (4294967296 ^ (s + m - 1))] at hsp
    omega
  refine ⟨hn0, hle, Int.not_le.1 fun hge => ?_⟩
  have hcap := h.cap
  have hq : 0 ≤ qf s * D * 4294967296 ^ s := Int.mul_nonneg (Int.mul_nonneg (h.qb s).1 (by omega)) (by omega)
  have h1 : 4294967296 * (D * 4294967296 ^ s) ≤ n * (D * 4294967296 ^ s) := Int.mul_le_mul_of_nonneg_right hge (Int.mul_nonneg (by omega) (by omega))
  rw [Int.pow_succ] at hcap
  have e1 : n * (D * 4294967296 ^ s) = n * D * 4294967296 ^ s := by grind
  have e2 : 4294967296 * (D * 4294967296 ^ s) = D * (4294967296 ^ s * 4294967296) := by grind
  omega

/-- the memory of the division: the rest in rb, the quotient in qb, the divisor beside them -/
structure DM (w wr : World) (rb qb K S m : Nat) (g qf d : Nat → Int) (y : Value) : Prop where
  r : RowAt .u64 wr rb 0 K g
  q : RowAt .u64 wr qb 0 S qf
  d : RdA .u64 wr y m d
  below : Below w.heap.size w wr

theorem RdA.grown {k : IntKind} {w w' : World} {v : Value} {n : Nat} {f : Nat → Int} (h : RdA k w v n f) {r : Nat} (hg : w.grownBy w' (some r)) (hr : v.ownBlock ≠ some r) : RdA k w' v n f := by
  obtain ⟨a, cap, rfl, h1, h2, h3⟩ := h
  refine ⟨a, cap, rfl, h1, h2, fun hn => ?_⟩
  obtain ⟨b, o, rfl, h4⟩ := h3 hn
  refine ⟨b, o, rfl, fun i hi => hg.cell (h4 i hi) ?_⟩
  intro e; exact hr (by simpa [Value.ownBlock] using e)

theorem DM.put {w wr w' : World} {rb qb K S m : Nat} {g qf d g' : Nat → Int} {y : Value} (h : DM w wr rb qb K S m g qf d y) (hne : qb ≠ rb) (hy : y.ownBlock ≠ some rb) (hrb : w.heap.size ≤ rb) (hr : RowAt .u64 w' rb 0 K g') (hg : wr.grownBy w' (some rb)) :
    DM w w' rb qb K S m g' qf d y :=
  ⟨hr, h.q.gb hg (by simpa using hne), h.d.grown hg hy, h.below.grown hg h.below.size fun k hk => by injection hk with hk; omega⟩
theorem DM.same {w wr w' : World} {rb qb K S m : Nat} {g qf d : Nat → Int} {y : Value} (h : DM w wr rb qb K S m g qf d y) (hb : Below wr.heap.size wr w') : DM w w' rb qb K S m g qf d y :=
  ⟨h.r.below hb, h.q.below hb, h.d.below hb, h.below.trans (hb.mono h.below.size)⟩

/-- the end: the rest is divided by the factor, from the top -/
structure DF (g : Nat → Int) (F : Int) (K c : Nat) (h : Nat → Int) (rho : Int) : Prop where
  hb : ∀ t, t < K → 0 ≤ h t ∧ h t < 4294967296
  rb : 0 ≤ rho ∧ rho < F
  low : ∀ t, t < c → h t = g t
  val : rho + F * up h K c = up g K c

theorem up_step (g : Nat → Int) {K c : Nat} (hc : c < K) : up g K c = g c + 4294967296 * up g K (c + 1) := by
  unfold up
  obtain ⟨e, he⟩ : ∃ e, K - c = 1 + e := ⟨K - c - 1, by omega⟩
  rw [he, dv_split, show K - (c + 1) = e by omega]
  simp only [dv, Nat.add_zero, Int.pow_zero, Int.mul_one, Int.zero_add, Int.pow_succ, Int.one_mul]
  congr 2
  exact dv_congr fun i _ => by rw [show c + (1 + i) = c + 1 + i by omega]

theorem DF.step {g h : Nat → Int} {F rho : Int} {K c : Nat} (hd : DF g F K (c + 1) h rho) (hc : c < K) (hg : ∀ t, t < K → 0 ≤ g t ∧ g t < 4294967296) (hF : 0 < F ∧ F ≤ 4294967296) :
    0 ≤ rho * 4294967296 + g c ∧ rho * 4294967296 + g c ≤ 18446744073709551615 ∧ 0 ≤ (rho * 4294967296 + g c) / F ∧ (rho * 4294967296 + g c) / F < 4294967296 ∧
      DF g F K c (fun t => if t = c then (rho * 4294967296 + g c) / F else h t) ((rho * 4294967296 + g c) % F) := by
  have hgc := hg c hc
  have hr := hd.rb
  have h0 : 0 ≤ (rho * 4294967296 + g c) / F := Int.ediv_nonneg (by omega) (by omega)
  have h1 : (rho * 4294967296 + g c) / F < 4294967296 := by
    refine Int.ediv_lt_of_lt_mul (by omega) ?_
    have : (rho + 1) * 4294967296 ≤ F * 4294967296 := Int.mul_le_mul_of_nonneg_right (by omega) (by omega)
    omega
  refine ⟨by omega, by omega, h0, h1, fun t ht => ?_, ⟨Int.emod_nonneg _ (by omega), Int.emod_lt_of_pos _ (by omega)⟩, fun t ht => ?_, ?_⟩
  · split
    · exact ⟨h0, h1⟩
    · exact hd.hb t ht
  · rw [if_neg (by omega)]; exact hd.low t (by omega)
  · rw [up_step _ hc, up_step g hc, if_pos rfl]
    have e : up (fun t => if t = c then (rho * 4294967296 + g c) / F else h t) K (c + 1) = up h K (c + 1) := by
      unfold up; exact dv_congr fun i _ => if_neg (by omega)
    rw [e, ← hd.val]
    have := Int.emod_add_mul_ediv (rho * 4294967296 + g c) F
    grind

theorem DF.start {g : Nat → Int} {F : Int} {K : Nat} (hg : ∀ t, t < K → 0 ≤ g t ∧ g t < 4294967296) (hF : 0 < F) : DF g F K K g 0 := ⟨hg, by omega, fun _ _ => rfl, by unfold up; rw [Nat.sub_self]; simp [dv]⟩

end Go.Proofs.Ytdlpemmoobbgnaa

namespace Go.Proofs.Ytdlpemmoobbgnaa
open Go.RowKit

end Go.Proofs.Ytdlpemmoobbgnaa

namespace Go.Proofs.Ytdlpemmoobbgnaa
open Go.RowKit

theorem FrH.nat {w : World} {base : Nat} {v : Value} {N : Int} (h : FrH w base v N) : ∃ a n cap f, v = .slice a n cap ∧ FrA .u64 22 w base (.slice a n cap) n f ∧ Dig 4294967296 n f N := by
  obtain ⟨n, f, h1, h2⟩ := h
  obtain ⟨a, cap, rfl⟩ := h1.slice
  exact ⟨a, n, cap, f, rfl, h1, h2⟩

theorem RdA.slice {k : IntKind} {w : World} {v : Value} {n : Nat} {f : Nat → Int} (h : RdA k w v n f) : ∃ a cap, v = .slice a n cap := by
  obtain ⟨a, cap, rfl, _⟩ := h
  exact ⟨a, cap, rfl⟩

end Go.Proofs.Ytdlpemmoobbgnaa

namespace Go.Proofs.Ytdlpemmoobbgnaa
open Go.RowKit

theorem RdZ.zb {w : World} {v : Value} {z : Int} (h : RdZ w v z) : ∃ S, S ≤ 274877906944 ∧ ZB S z := by
  obtain ⟨r, h1, rfl, h2⟩ := h
  exact ⟨r.n, h2, h1.zb⟩

theorem stored2_fr' {k : IntKind} {e : TypeId} {w3 : World} {base b : Nat} {x : Value} {n : Nat} {f : Nat → Int} (h : FrA k e w3 base x n f) (hb : b < base) (u v : Value) : FrA k e (stored2 w3 b u v) base x n f := by
  refine h.grown (stored2_gb w3 b u v) ?_
  cases hx : x.ownBlock with
  | none => exact Or.inl rfl
  | some k => right; have := (h.lt hx).1; intro e; injection e with e; omega
end Go.Proofs.Ytdlpemmoobbgnaa
