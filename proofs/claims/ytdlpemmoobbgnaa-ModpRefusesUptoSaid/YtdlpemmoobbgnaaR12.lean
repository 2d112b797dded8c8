/- The walks of trellisref03.goes, takeOff. -/
import Derived.Test.YtdlpemmoobbgnaaR11
set_option linter.unusedVariables false
set_option linter.unusedSimpArgs false
namespace Go.Proofs.Ytdlpemmoobbgnaa
open Go.RowKit

/-- the number that stands from the place s on -/
def up (g : Nat → Int) (K s : Nat) : Int := dv 4294967296 (fun t => g (s + t)) (K - s)

theorem up_split (g : Nat → Int) {K s : Nat} (h : s ≤ K) : dv 4294967296 g K = dv 4294967296 g s + 4294967296 ^ s * up g K s := by
  have := dv_split 4294967296 g s (K - s)
  rw [show s + (K - s) = K by omega] at this; exact this
theorem up_ge {g : Nat → Int} {K s : Nat} (hg : ∀ t, t < K → 0 ≤ g t ∧ g t < 4294967296) (h : s ≤ K) (D : Int) : D ≤ up g K s ↔ D * 4294967296 ^ s ≤ dv 4294967296 g K := by
  have h1 := dv_bd (B := 4294967296) (by omega) (n := s) (fun t ht => hg t (by omega))
  have hp := pow_pos' (show (0 : Int) < 4294967296 by omega) s
  rw [up_split g h]
  constructor
  · intro hD
    have := Int.mul_le_mul_of_nonneg_right hD (show (0 : Int) ≤ 4294967296 ^ s by omega)
    rw [Int.mul_comm (4294967296 ^ s)]; omega
  · intro hD
    refine Int.not_lt.1 fun hlt => ?_
    have : (up g K s + 1) * 4294967296 ^ s ≤ D * 4294967296 ^ s := Int.mul_le_mul_of_nonneg_right (by omega) (by omega)
    rw [Int.add_mul, Int.one_mul, Int.mul_comm (up g K s)] at this; omega

/-- with one place more than b has, or none -/
theorem up_top {g : Nat → Int} {K s m : Nat} (hs : s + m < K) (hz : ∀ t, s + m < t → t < K → g t = 0) : up g K s = dv 4294967296 (fun t => g (s + t)) m + g (s + m) * 4294967296 ^ m := by
  unfold up
  rw [dv_more (m := m + 1) (by omega) (fun i h1 h2 => hz (s + i) (by omega) (by omega))]
  rfl

set_option maxHeartbeats 1000000 in
set_option maxRecDepth 100000 in
theorem goes_any (x y : Value) (K m s : Nat) (g d : Nat → Int) (w : World) (hK : K ≤ 1099511627777) (hs : s + m ≤ K) (hx : RdA .u64 w x K g) (hy : RdA .u64 w y m d)
    (hg : ∀ t, t < K → 0 ≤ g t ∧ g t < 4294967296) (hd : ∀ t, t < m → 0 ≤ d t ∧ d t < 4294967296) (hz : ∀ t, s + m < t → t < K → g t = 0) :
    Calls Try.prog 136 #[x, y, .int .i64 s] w fun e w' => e = .returned (.bool (decide (dv 4294967296 d m ≤ up g K s))) ∧ Below w.heap.size w w' := by
  obtain ⟨a, cap, rfl, h1, h2, h3⟩ := wd_get hx
  obtain ⟨b, cap', rfl, g1, g2, g3⟩ := wd_get hy
  have H3 := Lib.hid h3
  have G3 := Lib.hid g3
  have HG := Lib.hid hg
  have HD := Lib.hid hd
  have HZ := Lib.hid hz
  have hgs : ∀ t, t < m → 0 ≤ g (s + t) ∧ g (s + t) < 4294967296 := fun t ht => hg (s + t) (by omega)
  have HGS := Lib.hid hgs
  clear h3 g3 hx hy hg hd hz hgs
  have key : (s + m < K ∧ 0 < g (s + m)) ∨ (¬ (s + m < K ∧ 0 < g (s + m))) := Classical.em _
  rcases key with ⟨k1, k2⟩ | k
  · have e : Hid (decide (dv 4294967296 d m ≤ up g K s) = true) := by
      show _ = _
      rw [decide_eq_true_eq, up_top k1 HZ.out]
      have hb1 := dv_bd (by omega) HD.out
      have hb2 := dv_bd (by omega) HGS.out
      have hp := pow_pos' (show (0 : Int) < 4294967296 by omega) m
      have : 1 * (4294967296 : Int) ^ m ≤ g (s + m) * 4294967296 ^ m := Int.mul_le_mul_of_nonneg_right (by omega) (by omega)
      omega
    obtain ⟨b1, o1, rfl, hc⟩ := H3.out (s + m) k1
    obtain ⟨u, hu⟩ : ∃ u, u = g (s + m) := ⟨_, rfl⟩
    rw [← hu] at hc k2
    have k1' : (s : Int) + m < K := by omega
    clear hu
    go_enter Try.func136, Try.ntmps136
    go_wp2_with fail
    go_ret
    exact ⟨ret_bool e.out.symm, Below.refl _ _⟩
  · have hup : Hid (up g K s = dv 4294967296 (fun t => g (s + t)) m) := by
      show _ = _
      by_cases hlt : s + m < K
      · have : g (s + m) = 0 := by have := HG.out (s + m) hlt; omega
        rw [up_top hlt HZ.out, this]; simp
      · unfold up; rw [show K - s = m by omega]
    have main : ∀ (wr : World), Below w.heap.size w wr → True := fun _ _ => trivial
    clear main
    have hpre : (¬ s + m < K) ∨ (s + m < K ∧ g (s + m) = 0) := by
      by_cases hlt : s + m < K
      · right; refine ⟨hlt, ?_⟩; have := HG.out (s + m) hlt; omega
      · exact Or.inl hlt
    clear k
    rcases hpre with hno | ⟨hlt, hg0⟩
    · have hno' : ¬ (s : Int) + m < K := by omega
      clear hno
      go_enter Try.func136, Try.ntmps136
      go_wp2_with fail
      go_loopw [8] (fun kv wr => ∃ k : Nat, k ≤ m ∧ Hid (∀ i, k ≤ i → i < m → g (s + i) = d i) ∧ kv = .int .i64 ((k : Int) - 1) ∧ Below w.heap.size w wr) (fun kv _ => (intOf kv + 1).toNat)
      case atStart => exact ⟨m, Nat.le_refl _, fun i h1 h2 => absurd h1 (by omega), rfl, Below.refl _ _⟩
      case round =>
        obtain ⟨k, k1, k2, rfl, hb⟩ := hrel
        rcases k with _ | j
        · have e : Hid (decide (dv 4294967296 d m ≤ up g K s) = true) := by
            show _ = _
            rw [decide_eq_true_eq, hup.out, dv_congr (f := fun t => g (s + t)) (g := d) fun i hi => k2.out i (Nat.zero_le _) hi]
            exact Int.le_refl _
          go_wp2_with fail
          go_ret
          exact ⟨ret_bool e.out.symm, hb⟩
        · obtain ⟨b1, o1, rfl, hc⟩ := H3.out (s + j) (by omega)
          obtain ⟨b2, o2, rfl, hd⟩ := G3.out j (by omega)
          obtain ⟨u, hu⟩ : ∃ u, u = g (s + j) := ⟨_, rfl⟩
          obtain ⟨v, hv⟩ : ∃ v, v = d j := ⟨_, rfl⟩
          rw [← hu] at hc
          rw [← hv] at hd
          have hc := cell_stays hb hc
          have hd := cell_stays hb hd
          have HU := Lib.hid hu
          have HV := Lib.hid hv
          obtain ⟨q, hq⟩ : ∃ q, q = s + j := ⟨_, rfl⟩
          rw [← hq] at hc
          have hq1 : (s : Int) + j = (q : Int) := by omega
          have g1' : IntKind.i64.wrap ((q : Nat) : Int) = q := IntWalk.i64_in _ (by omega)
          have g2' : IntKind.i64.wrap ((s : Int) + j) = q := by rw [hq1]; exact g1'
          have g3' : (0 : Int) ≤ (q : Int) := by omega
          have g4' : (q : Int) < (K : Int) := by omega
          have g5' : ((j + 1 : Nat) : Int) - 1 = (j : Int) := by omega
          have g6' : (0 : Int) ≤ (j : Int) := by omega
          have g7' : (j : Int) < (m : Int) := by omega
          have hlt1 : u < v → Hid (decide (dv 4294967296 d m ≤ up g K s) = false) := fun h => by
            show _ = _
            rw [decide_eq_false_iff_not, hup.out]
            have := dv_lt (B := 4294967296) (f := fun t => g (s + t)) (g := d) (by omega) HGS.out HD.out (k := j) (by omega) (fun i h1 h2 => k2.out i (by omega) h2) (by show g (s + j) < d j; rw [← HU.out, ← HV.out]; exact h)
            omega
          have hgt1 : v < u → Hid (decide (dv 4294967296 d m ≤ up g K s) = true) := fun h => by
            show _ = _
            rw [decide_eq_true_eq, hup.out]
            have := dv_lt (B := 4294967296) (f := d) (g := fun t => g (s + t)) (by omega) HD.out HGS.out (k := j) (by omega) (fun i h1 h2 => (k2.out i (by omega) h2).symm) (by show d j < g (s + j); rw [← HU.out, ← HV.out]; exact h)
            omega
          have HL := Lib.hid hlt1
          have HGT := Lib.hid hgt1
          clear hu hv hq hlt1 hgt1
          rw [g5']
          rcases Int.lt_trichotomy u v with h | h | h
          · have e := HL.out h
            have hne : (u != v) = true := by rw [bne_iff_ne]; omega
            have hdec : decide (v < u) = false := by rw [decide_eq_false_iff_not]; omega
            go_wp2_with fail
            go_region
            all_goals
              go_wp2_with fail
              go_region
              all_goals
                clear g2' hq1
                go_wp2_with fail
                go_ret
                exact ⟨ret_bool (by rw [e.out]), hb.drew.drew⟩
          · subst h
            go_wp2_with fail
            go_region
            all_goals
              clear g2' hq1
              go_wp2_with fail
              go_roundw
              case rel =>
                refine ⟨j, by omega, fun i h1 h2 => ?_, by go_num, hb.drew⟩
                by_cases e : i = j
                · subst e; rw [← HU.out, ← HV.out]
                · exact k2.out i (by omega) h2
              case measure => simp [intOf]
          · have e := HGT.out h
            have hne : (u != v) = true := by rw [bne_iff_ne]; omega
            go_wp2_with fail
            go_region
            all_goals
              go_wp2_with fail
              go_region
              all_goals
                clear g2' hq1
                go_wp2_with fail
                go_ret
                exact ⟨ret_bool (by rw [e.out]), hb.drew.drew⟩
    · obtain ⟨b1, o1, rfl, hc⟩ := H3.out (s + m) hlt
      rw [hg0] at hc
      have hlt' : (s : Int) + m < K := by omega
      clear hg0
      go_enter Try.func136, Try.ntmps136
      go_wp2_with fail
      clear hc hlt'
      go_loopw [8] (fun kv wr => ∃ k : Nat, k ≤ m ∧ Hid (∀ i, k ≤ i → i < m → g (s + i) = d i) ∧ kv = .int .i64 ((k : Int) - 1) ∧ Below w.heap.size w wr) (fun kv _ => (intOf kv + 1).toNat)
      case atStart => exact ⟨m, Nat.le_refl _, fun i h1 h2 => absurd h1 (by omega), rfl, Below.refl _ _⟩
      case round =>
        obtain ⟨k, k1, k2, rfl, hb⟩ := hrel
        rcases k with _ | j
        · have e : Hid (decide (dv 4294967296 d m ≤ up g K s) = true) := by
            show _ = _
            rw [decide_eq_true_eq, hup.out, dv_congr (f := fun t => g (s + t)) (g := d) fun i hi => k2.out i (Nat.zero_le _) hi]
            exact Int.le_refl _
          go_wp2_with fail
          go_ret
          exact ⟨ret_bool e.out.symm, hb⟩
        · obtain ⟨b3, o3, eb, hc⟩ := H3.out (s + j) (by omega)
          injection eb with eb; injection eb with eb1 eb2 _; subst eb1; subst eb2
          obtain ⟨b2, o2, rfl, hd⟩ := G3.out j (by omega)
          obtain ⟨u, hu⟩ : ∃ u, u = g (s + j) := ⟨_, rfl⟩
          obtain ⟨v, hv⟩ : ∃ v, v = d j := ⟨_, rfl⟩
          rw [← hu] at hc
          rw [← hv] at hd
          have hc := cell_stays hb hc
          have hd := cell_stays hb hd
          have HU := Lib.hid hu
          have HV := Lib.hid hv
          obtain ⟨q, hq⟩ : ∃ q, q = s + j := ⟨_, rfl⟩
          rw [← hq] at hc
          have hq1 : (s : Int) + j = (q : Int) := by omega
          have g1' : IntKind.i64.wrap ((q : Nat) : Int) = q := IntWalk.i64_in _ (by omega)
          have g2' : IntKind.i64.wrap ((s : Int) + j) = q := by rw [hq1]; exact g1'
          have g3' : (0 : Int) ≤ (q : Int) := by omega
          have g4' : (q : Int) < (K : Int) := by omega
          have g5' : ((j + 1 : Nat) : Int) - 1 = (j : Int) := by omega
          have g6' : (0 : Int) ≤ (j : Int) := by omega
          have g7' : (j : Int) < (m : Int) := by omega
          have hlt1 : u < v → Hid (decide (dv 4294967296 d m ≤ up g K s) = false) := fun h => by
            show _ = _
            rw [decide_eq_false_iff_not, hup.out]
            have := dv_lt (B := 4294967296) (f := fun t => g (s + t)) (g := d) (by omega) HGS.out HD.out (k := j) (by omega) (fun i h1 h2 => k2.out i (by omega) h2) (by show g (s + j) < d j; rw [← HU.out, ← HV.out]; exact h)
            omega
          have hgt1 : v < u → Hid (decide (dv 4294967296 d m ≤ up g K s) = true) := fun h => by
            show _ = _
            rw [decide_eq_true_eq, hup.out]
            have := dv_lt (B := 4294967296) (f := d) (g := fun t => g (s + t)) (by omega) HD.out HGS.out (k := j) (by omega) (fun i h1 h2 => (k2.out i (by omega) h2).symm) (by show d j < g (s + j); rw [← HU.out, ← HV.out]; exact h)
            omega
          have HL := Lib.hid hlt1
          have HGT := Lib.hid hgt1
          clear hu hv hq hlt1 hgt1
          rw [g5']
          rcases Int.lt_trichotomy u v with h | h | h
          · have e := HL.out h
            have hne : (u != v) = true := by rw [bne_iff_ne]; omega
            have hdec : decide (v < u) = false := by rw [decide_eq_false_iff_not]; omega
            go_wp2_with fail
            go_region
            all_goals
              go_wp2_with fail
              go_region
              all_goals
                clear g2' hq1
                go_wp2_with fail
                go_ret
                exact ⟨ret_bool (by rw [e.out]), hb.drew.drew⟩
          · subst h
            go_wp2_with fail
            go_region
            all_goals
              clear g2' hq1
              go_wp2_with fail
              go_roundw
              case rel =>
                refine ⟨j, by omega, fun i h1 h2 => ?_, by go_num, hb.drew⟩
                by_cases e : i = j
                · subst e; rw [← HU.out, ← HV.out]
                · exact k2.out i (by omega) h2
              case measure => simp [intOf]
          · have e := HGT.out h
            have hne : (u != v) = true := by rw [bne_iff_ne]; omega
            go_wp2_with fail
            go_region
            all_goals
              go_wp2_with fail
              go_region
              all_goals
                clear g2' hq1
                go_wp2_with fail
                go_ret
                exact ⟨ret_bool (by rw [e.out]), hb.drew.drew⟩

/-- q times the digits of d taken off from g0's place s on, as far as i places -/
structure TO (g0 d : Nat → Int) (q : Int) (s m K i : Nat) (g : Nat → Int) (c : Int) : Prop where
  bd : ∀ t, t < K → 0 ≤ g t ∧ g t < 4294967296
  cb : 0 ≤ c ∧ c ≤ 4294967296
  rest : ∀ t, s + i ≤ t → g t = g0 t
  val : dv 4294967296 g K - c * 4294967296 ^ (s + i) = dv 4294967296 g0 K - q * dv 4294967296 (zx d m) i * 4294967296 ^ s

theorem TO.step {g0 d : Nat → Int} {q : Int} {s m K i : Nat} {g : Nat → Int} {c : Int} (h : TO g0 d q s m K i g c) (hK : s + i < K) (hq : 0 ≤ q ∧ q < 4294967296) (hd : ∀ t, t < m → 0 ≤ d t ∧ d t < 4294967296) {v c' : Int}
    (hv : v - c' * 4294967296 = g (s + i) - (c + q * zx d m i)) (hvb : 0 ≤ v ∧ v < 4294967296) (hcb : 0 ≤ c' ∧ c' ≤ 4294967296) : TO g0 d q s m K (i + 1) (fun t => if t = s + i then v else g t) c' := by
  refine ⟨fun t ht => ?_, hcb, fun t ht => ?_, ?_⟩
  · split
    · exact hvb
    · exact h.bd t ht
  · rw [if_neg (by omega)]; exact h.rest t (by omega)
  · rw [dv_upd _ _ _ _ hK, show s + (i + 1) = s + i + 1 by omega, Int.pow_succ]
    have h1 := h.val
    simp only [dv]
    have hp : (4294967296 : Int) ^ (s + i) = 4294967296 ^ s * 4294967296 ^ i := Int.pow_add _ _ _
    rw [hp] at h1 ⊢
    grind

theorem TO.stop {g0 d : Nat → Int} {q : Int} {s m K i : Nat} {g : Nat → Int} {c : Int} (h : TO g0 d q s m K i g c) (hsm : s + m ≤ K) (hle : q * dv 4294967296 d m * 4294967296 ^ s ≤ dv 4294967296 g0 K)
    (hi : (m ≤ i ∧ c = 0) ∨ s + i = K) : dv 4294967296 g K = dv 4294967296 g0 K - q * dv 4294967296 d m * 4294967296 ^ s := by
  have hv := h.val
  have hmi : m ≤ i := by omega
  rw [zx_dv hmi] at hv
  rcases hi with ⟨_, rfl⟩ | e
  · omega
  · have hb := dv_bd (by omega) h.bd
    rw [e] at hv
    have hp := pow_pos' (show (0 : Int) < 4294967296 by omega) K
    have hc := h.cb
    rcases (by omega : c = 0 ∨ 1 ≤ c) with r | r
    · rw [r] at hv; omega
    · exfalso
      have : 1 * (4294967296 : Int) ^ K ≤ c * 4294967296 ^ K := Int.mul_le_mul_of_nonneg_right r (by omega)
      omega

theorem to_mul {q x c : Int} (hq : 0 ≤ q ∧ q < 4294967296) (hx : 0 ≤ x ∧ x < 4294967296) (hc : 0 ≤ c ∧ c ≤ 4294967296) :
    0 ≤ q * x ∧ q * x ≤ 18446744065119617025 ∧ 0 ≤ c + q * x ∧ c + q * x ≤ 18446744069414584321 ∧ 0 ≤ (c + q * x) / 4294967296 ∧ (c + q * x) / 4294967296 ≤ 4294967295 ∧ 0 ≤ (c + q * x) % 4294967296 ∧ (c + q * x) % 4294967296 < 4294967296 := by
  have h3 : 0 ≤ q * x := Int.mul_nonneg hq.1 hx.1
  have h4 : q * x ≤ 4294967295 * 4294967295 := Int.mul_le_mul (by omega) (by omega) hx.1 (by omega)
  omega

set_option maxHeartbeats 2000000 in
set_option maxRecDepth 100000 in
theorem takeOff_any (rb K m s cap : Nat) (g0 d : Nat → Int) (q : Int) (y : Value) (w : World) (hK : K ≤ 1099511627777) (hs : s + m ≤ K) (hq : 0 ≤ q ∧ q < 4294967296) (hr : RowAt .u64 w rb 0 K g0)
    (hy : RdA .u64 w y m d) (hoff : y.ownBlock ≠ some rb) (hg : ∀ t, t < K → 0 ≤ g0 t ∧ g0 t < 4294967296) (hd : ∀ t, t < m → 0 ≤ d t ∧ d t < 4294967296) (hle : q * dv 4294967296 d m * 4294967296 ^ s ≤ dv 4294967296 g0 K) :
    Calls Try.prog 137 #[.slice (some ⟨rb, 0, none⟩) K cap, y, .int .u64 q, .int .i64 s] w fun e w' => ∃ g, e = .returned (.tuple #[]) ∧ RowAt .u64 w' rb 0 K g ∧ (∀ t, t < K → 0 ≤ g t ∧ g t < 4294967296) ∧
      dv 4294967296 g K = dv 4294967296 g0 K - q * dv 4294967296 d m * 4294967296 ^ s ∧ w.grownBy w' (some rb) := by
  obtain ⟨b, cap', rfl, g1, g2, g3⟩ := wd_get hy
  have hne : ∀ b1 o1, b = some ⟨b1, o1, none⟩ → b1 ≠ rb := fun b1 o1 e h => hoff (by rw [e, h]; rfl)
  have G3 := Lib.hid g3
  have HD := Lib.hid hd
  have HNE := Lib.hid hne
  have HLE := Lib.hid hle
  obtain ⟨q0, q1⟩ := hq
  have h0 : TO g0 d q s m K 0 g0 0 := ⟨hg, by omega, fun _ _ => rfl, by simp [dv]⟩
  have H0 := Lib.hid h0
  have HR := Lib.hid hr
  clear g3 hy hoff hg hd hle hne h0 hr
  go_enter Try.func137, Try.ntmps137
  go_wp2_with fail
  go_loopw [8, 9] (fun cv iv wr => ∃ (i : Nat) (g : Nat → Int) (c : Int), s + i ≤ K ∧ iv = .int .i64 i ∧ cv = .int .u64 c ∧ TO g0 d q s m K i g c ∧ RowAt .u64 wr rb 0 K g ∧ w.grownBy wr (some rb)) (fun _ iv _ => K - (intOf iv).toNat)
  case atStart => exact ⟨0, g0, 0, by omega, rfl, rfl, H0.out, HR.out, gb_refl _ _⟩
  case round =>
    clear HR H0
    obtain ⟨i, g, c, i1, rfl, rfl, hto, hrow, hgr⟩ := hrel
    obtain ⟨c0, c1⟩ := hto.cb
    have HTO := Lib.hid hto
    have HROW := Lib.hid hrow
    clear hto hrow
    by_cases hiK : s + i < K
    · obtain ⟨t, ht⟩ : ∃ t, t = s + i := ⟨_, rfl⟩
      have hsi : (s : Int) + i = (t : Int) := by omega
      have htK : t < K := by omega
      obtain ⟨u0, u1⟩ := HTO.out.bd t htK
      obtain ⟨u, hu⟩ : ∃ u, u = g t := ⟨_, rfl⟩
      obtain ⟨d1, d2⟩ := HROW.out.get0 (i := t) htK hu.symm
      rw [← hu] at u0 u1
      have hstep := fun (x v c' : Int) (hx : zx d m i = x) (hv : v - c' * 4294967296 = u - (c + q * x)) (hvb : 0 ≤ v ∧ v < 4294967296) (hcb : 0 ≤ c' ∧ c' ≤ 4294967296) =>
        HTO.out.step (i := i) (v := v) (c' := c') hiK ⟨q0, q1⟩ HD.out (by rw [hx, ← ht, ← hu]; exact hv) hvb hcb
      rw [← ht] at hstep
      have HST := Lib.hid hstep
      have HT := Lib.hid ht
      clear hstep ht hu hiK
      by_cases him : i < m
      · obtain ⟨b2, o2, hb2, hd⟩ := G3.out i him
        have hnb := HNE.out b2 o2 hb2
        subst hb2
        have hd := hgr.cell hd (by simpa using hnb)
        obtain ⟨x0, x1⟩ := HD.out i him
        have hzx : Hid (zx d m i = d i) := if_pos him
        obtain ⟨x, hx⟩ : ∃ x, x = d i := ⟨_, rfl⟩
        rw [← hx] at hd x0 x1 hzx
        obtain ⟨m0, m1, m2, m3, m4, m5, m6, m7⟩ := to_mul ⟨q0, q1⟩ ⟨x0, x1⟩ ⟨c0, c1⟩
        clear hx
        obtain ⟨lo, hlo⟩ : ∃ lo, lo = (c + q * x) % 4294967296 := ⟨_, rfl⟩
        obtain ⟨hi, hhi⟩ : ∃ hi, hi = (c + q * x) / 4294967296 := ⟨_, rfl⟩
        have hlh : c + q * x = lo + 4294967296 * hi := by omega
        by_cases hlt : u < lo
        · have hn := HST.out x (u + 4294967296 - lo) (hi + 1) hzx.out (by omega) (by omega) (by omega)
          have hr2 := HROW.out.set0 htK (u + 4294967296 - lo)
          have hg2 := gb_trans hgr (gb_set wr ⟨rb, t, none⟩ (.int .u64 (u + 4294967296 - lo)))
          have HN := Lib.hid (And.intro hn (And.intro hr2 hg2))
          have HLH := Lib.hid hlh
          clear hn hr2 hg2 hgr hlh
          rw [← hlo] at m6 m7
          rw [← hhi] at m4 m5
          have HLO := Lib.hid hlo.symm
          have HHI := Lib.hid hhi.symm
          clear hlo hhi
          have hlo' := HLO.out
          have hhi' := HHI.out
          go_wp2_with fail
          go_roundw
          case rel => exact ⟨i + 1, _, _, by have := HT.out; omega, by go_num, rfl, by first | exact HN.out.1 | (rw [HHI.out]; exact HN.out.1), HN.out.2.1, HN.out.2.2⟩
          case measure => simp [intOf]; omega
        · have hn := HST.out x (u - lo) (hi) hzx.out (by omega) (by omega) (by omega)
          have hr2 := HROW.out.set0 htK (u - lo)
          have hg2 := gb_trans hgr (gb_set wr ⟨rb, t, none⟩ (.int .u64 (u - lo)))
          have HN := Lib.hid (And.intro hn (And.intro hr2 hg2))
          have HLH := Lib.hid hlh
          clear hn hr2 hg2 hgr hlh
          rw [← hlo] at m6 m7
          rw [← hhi] at m4 m5
          have HLO := Lib.hid hlo.symm
          have HHI := Lib.hid hhi.symm
          clear hlo hhi
          have hlo' := HLO.out
          have hhi' := HHI.out
          go_wp2_with fail
          go_roundw
          case rel => exact ⟨i + 1, _, _, by have := HT.out; omega, by go_num, rfl, by first | exact HN.out.1 | (rw [HHI.out]; exact HN.out.1), HN.out.2.1, HN.out.2.2⟩
          case measure => simp [intOf]; omega
      · have hzx : Hid (zx d m i = 0) := if_neg him
        by_cases hcp : 0 < c
        · obtain ⟨lo, hlo⟩ : ∃ lo, lo = c % 4294967296 := ⟨_, rfl⟩
          obtain ⟨hi, hhi⟩ : ∃ hi, hi = c / 4294967296 := ⟨_, rfl⟩
          have hlh : c + q * 0 = lo + 4294967296 * hi := by omega
          have m6 : 0 ≤ c % 4294967296 := by omega
          have m7 : c % 4294967296 < 4294967296 := by omega
          have m4 : 0 ≤ c / 4294967296 := by omega
          have m5 : c / 4294967296 ≤ 1 := by omega
          by_cases hlt : u < lo
          · have hn := HST.out 0 (u + 4294967296 - lo) (hi + 1) hzx.out (by omega) (by omega) (by omega)
            have hr2 := HROW.out.set0 htK (u + 4294967296 - lo)
            have hg2 := gb_trans hgr (gb_set wr ⟨rb, t, none⟩ (.int .u64 (u + 4294967296 - lo)))
            have HN := Lib.hid (And.intro hn (And.intro hr2 hg2))
            have HLH := Lib.hid hlh
            clear hn hr2 hg2 hgr hlh
            rw [← hlo] at m6 m7
            rw [← hhi] at m4 m5
            have HLO := Lib.hid hlo.symm
            have HHI := Lib.hid hhi.symm
            clear hlo hhi
            have hlo' := HLO.out
            have hhi' := HHI.out
            go_wp2_with fail
            go_roundw
            case rel => exact ⟨i + 1, _, _, by have := HT.out; omega, by go_num, rfl, by first | exact HN.out.1 | (rw [HHI.out]; exact HN.out.1), HN.out.2.1, HN.out.2.2⟩
            case measure => simp [intOf]; omega
          · have hn := HST.out 0 (u - lo) (hi) hzx.out (by omega) (by omega) (by omega)
            have hr2 := HROW.out.set0 htK (u - lo)
            have hg2 := gb_trans hgr (gb_set wr ⟨rb, t, none⟩ (.int .u64 (u - lo)))
            have HN := Lib.hid (And.intro hn (And.intro hr2 hg2))
            have HLH := Lib.hid hlh
            clear hn hr2 hg2 hgr hlh
            rw [← hlo] at m6 m7
            rw [← hhi] at m4 m5
            have HLO := Lib.hid hlo.symm
            have HHI := Lib.hid hhi.symm
            clear hlo hhi
            have hlo' := HLO.out
            have hhi' := HHI.out
            go_wp2_with fail
            go_roundw
            case rel => exact ⟨i + 1, _, _, by have := HT.out; omega, by go_num, rfl, by first | exact HN.out.1 | (rw [HHI.out]; exact HN.out.1), HN.out.2.1, HN.out.2.2⟩
            case measure => simp [intOf]; omega
        · have hc0 : c = 0 := by omega
          have hfin := HTO.out.stop hs HLE.out (Or.inl ⟨by omega, hc0⟩)
          have HFIN := Lib.hid hfin
          subst hc0
          clear hfin
          go_wp2_with fail
          go_end0
          exact ⟨rfl, g, HROW.out, HTO.out.bd, HFIN.out, hgr⟩
    · have hfin := HTO.out.stop hs HLE.out (Or.inr (by omega))
      have HFIN := Lib.hid hfin
      clear hfin
      have hsi : ¬ (s : Int) + i < K := by omega
      go_wp2_with fail
      go_end0
      exact ⟨rfl, g, HROW.out, HTO.out.bd, HFIN.out, hgr⟩

end Go.Proofs.Ytdlpemmoobbgnaa
