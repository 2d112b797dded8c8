/- The walks of trellisref03.words, scaled. -/
import Derived.Test.YtdlpemmoobbgnaaR10
set_option linter.unusedVariables false
set_option linter.unusedSimpArgs false
namespace Go.Proofs.Ytdlpemmoobbgnaa
open Go.RowKit

/-- the words when the digits before i have been put in -/
def jh (f : Nat → Int) (i t : Nat) : Int := (if 2 * t < i then f (2 * t) else 0) + 4294967296 * (if 2 * t + 1 < i then f (2 * t + 1) else 0)
theorem jh_bd {f : Nat → Int} {n : Nat} (h : ∀ i, i < n → 0 ≤ f i ∧ f i < 4294967296) (t : Nat) : 0 ≤ jh f n t ∧ jh f n t < 18446744073709551616 := by
  unfold jh
  have a (k : Nat) : 0 ≤ (if k < n then f k else 0) ∧ (if k < n then f k else 0) < 4294967296 := by
    split
    · exact h k (by assumption)
    · omega
  have := a (2 * t); have := a (2 * t + 1)
  omega
theorem jh_dv (f : Nat → Int) (n : Nat) : ∀ m, dv 18446744073709551616 (jh f n) m = dv 4294967296 (fun i => if i < n then f i else 0) (2 * m)
  | 0 => rfl
  | m + 1 => by
    rw [show 2 * (m + 1) = 2 * m + 1 + 1 by omega]
    simp only [dv]
    rw [← jh_dv f n m]
    have hp : (4294967296 : Int) ^ (2 * m) = 18446744073709551616 ^ m := by rw [Int.pow_mul]; rfl
    rw [Int.pow_succ, hp]
    unfold jh
    grind
theorem Dig.joinH {n : Nat} {f : Nat → Int} {N : Int} (h : Dig 4294967296 n f N) {m : Nat} (h1 : n ≤ 2 * m) (h2 : 2 * m < n + 2) : Dig 18446744073709551616 m (jh f n) N := by
  refine ⟨fun i _ => jh_bd h.bd i, fun hm => ?_, ?_⟩
  · have ht := h.top (by omega)
    have a (k : Nat) : 0 ≤ (if k < n then f k else 0) := by
      split
      · exact (h.bd k (by assumption)).1
      · omega
    have := a (2 * (m - 1)); have := a (2 * (m - 1) + 1)
    have hn := h.bd (n - 1) (by omega)
    obtain ⟨k, hk, e⟩ : ∃ k, k < 2 ∧ n - 1 = 2 * (m - 1) + k := ⟨n - 1 - 2 * (m - 1), by omega, by omega⟩
    have hf : (if 2 * (m - 1) + k < n then f (2 * (m - 1) + k) else 0) ≠ 0 := by rw [if_pos (by omega), ← e]; exact ht
    unfold jh
    rcases (by omega : k = 0 ∨ k = 1) with r | r <;> subst r <;> (try simp only [Nat.add_zero] at hf) <;> omega
  · rw [jh_dv, dv_more h1 (fun i hi _ => if_neg (by omega)), ← h.val]
    exact dv_congr fun i hi => if_pos hi

set_option maxHeartbeats 1000000 in
set_option maxRecDepth 100000 in
theorem words3_any (a : Option Addr) (n cap : Nat) (f : Nat → Int) (w : World) (hn : n ≤ 1099511627776) (hf : ∀ i, i < n → 0 ≤ f i ∧ f i < 4294967296) (hr : RdA .u64 w (.slice a n cap) n f) :
    Calls Try.prog 133 #[.slice a n cap] w fun e w' => ∃ v', e = .returned v' ∧ FrN w' w.heap.size v' (dv 4294967296 f n) ∧ Below w.heap.size w w' := by
  have htr := Trim3_any a n cap f w hr
  obtain ⟨a', cap', e, h1, h2, h3⟩ := wd_get hr
  simp only [Value.slice.injEq, true_and] at e
  obtain ⟨rfl, rfl⟩ := e
  have hle := sz_le f n
  have hdg := dig_sz hf
  obtain ⟨m, hm⟩ : ∃ m, m = sz f n := ⟨_, rfl⟩
  rw [← hm] at hle htr hdg
  have H3 := Lib.hid h3
  have HT := Lib.hid htr
  have HD := Lib.hid hdg
  clear h3 hr hm htr hdg hf
  obtain ⟨K, hK⟩ : ∃ K, K = (m + 1) / 2 := ⟨_, rfl⟩
  have hKb : K ≤ 17592186044416 := by omega
  have mk : ∀ u : World, (Instr.makeSlice 54 (.int .i64 (((m : Int) + 1) / 2)) (.int .i64 (((m : Int) + 1) / 2))).run Try.prog u =
      .ok (.slice (some ⟨u.heap.size, 0, none⟩) K K) (u.alloc (.cells (madeCells #[.int .u64 0] K) 22)) := by
    rw [show ((m : Int) + 1) / 2 = (K : Int) by omega]; exact mk_wds K K (Nat.le_refl _) hKb
  have HK := Lib.hid hK
  clear hK
  go_enter Try.func133, Try.ntmps133
  go_wp2_with (go_at_call 134; (with_reducible refine HT.out.mono ?_); rintro e w3 ⟨rfl, rfl⟩)
  have hr0 := (CellsAt.row (f := fun _ => 0) (CellsAt.made w (.int .u64 0) K 22))
  have hk0 := Blk.made w (.int .u64 0) K 22
  have hg0 := World.grownBy_alloc w (.cells (madeCells #[.int .u64 0] K) 22) (some w.heap.size)
  have HR0 := Lib.hid hr0
  have HK0 := Lib.hid hk0
  have HG0 := Lib.hid hg0
  clear hr0 hk0 hg0 mk
  generalize w.alloc (.cells (madeCells #[.int .u64 0] K) 22) = w4 at HR0 HK0 HG0 ⊢
  go_loopw [4] (fun iv wr => ∃ j : Nat, j ≤ m ∧ iv = .int .i64 j ∧ RowAt .u64 wr w.heap.size 0 K (jh f j) ∧ Blk wr w.heap.size K 22 ∧ w.grownBy wr (some w.heap.size)) (fun iv _ => m - (intOf iv).toNat)
  case atStart => exact ⟨0, by omega, rfl, HR0.out.congr fun i _ => by unfold jh; rw [if_neg (by omega), if_neg (by omega)]; rfl, HK0.out, HG0.out⟩
  case round =>
    clear HR0 HK0 HG0
    obtain ⟨j, j1, rfl, hrow, hblk, hgr⟩ := hrel
    by_cases hj : j < m
    · obtain ⟨b, o, rfl, hc⟩ := H3.out j (by omega)
      have hc := hgr.cell hc (by simp; have := World.block_lt_of_cell? w _ hc; simp at this; omega)
      obtain ⟨x, hx⟩ : ∃ x, x = f j := ⟨_, rfl⟩
      obtain ⟨x0, x1⟩ := HD.out.bd j hj
      rw [← hx] at hc x0 x1
      obtain ⟨T, hT⟩ : ∃ T, T = j / 2 := ⟨_, rfl⟩
      have hTK : T < K := by have := HK.out; omega
      have hjT : (j : Int) / 2 = (T : Int) := by omega
      by_cases hev : j % 2 = 0
      · have hst : Hid (∀ t, (if t = T then x else jh f j t) = jh f (j + 1) t) := fun t => by
          by_cases e : t = T
          · rw [if_pos e]; unfold jh; rw [if_pos (by omega), if_neg (by omega), hx, show 2 * t = j by omega]; omega
          · rw [if_neg e]; unfold jh
            congr 1
            · by_cases e2 : 2 * t < j
              · rw [if_pos e2, if_pos (by omega)]
              · rw [if_neg e2, if_neg (by omega)]
            · congr 1
              by_cases e2 : 2 * t + 1 < j
              · rw [if_pos e2, if_pos (by omega)]
              · rw [if_neg e2, if_neg (by omega)]
        obtain ⟨d1, d2⟩ := hrow.get0 (i := T) hTK rfl
        have hrow2 := (hrow.set0 hTK x).congr fun t _ => hst.out t
        have hblk2 := hblk.set T (.int .u64 x)
        have hgr2 := gb_trans hgr (gb_set wr ⟨w.heap.size, T, none⟩ (.int .u64 x))
        have HN := Lib.hid (And.intro hrow2 (And.intro hblk2 hgr2))
        have hevb : ((j : Int) % 2 == 0) = true := beq_iff_eq.2 (by omega)
        clear hrow hblk hgr hrow2 hblk2 hgr2 hx hT hev
        go_wp2_with fail
        go_roundw
        case rel => exact ⟨j + 1, by omega, by go_num, HN.out.1, HN.out.2.1, HN.out.2.2⟩
        case measure => simp [intOf]; omega
      · obtain ⟨y, hy⟩ : ∃ y, y = jh f j T := ⟨_, rfl⟩
        have hyv : y = f (2 * T) := by rw [hy]; unfold jh; rw [if_pos (by omega), if_neg (by omega)]; omega
        obtain ⟨y0, y1⟩ := HD.out.bd (2 * T) (by omega)
        rw [← hyv] at y0 y1
        have hst : Hid (∀ t, (if t = T then y + x * 4294967296 else jh f j t) = jh f (j + 1) t) := fun t => by
          by_cases e : t = T
          · rw [if_pos e]; unfold jh; rw [if_pos (by omega), if_pos (by omega), hx, hyv, e, show 2 * T + 1 = j by omega]; omega
          · rw [if_neg e]; unfold jh
            congr 1
            · by_cases e2 : 2 * t < j
              · rw [if_pos e2, if_pos (by omega)]
              · rw [if_neg e2, if_neg (by omega)]
            · congr 1
              by_cases e2 : 2 * t + 1 < j
              · rw [if_pos e2, if_pos (by omega)]
              · rw [if_neg e2, if_neg (by omega)]
        obtain ⟨d1, d2⟩ := hrow.get0 (i := T) hTK hy.symm
        have hrow2 := (hrow.set0 hTK (y + x * 4294967296)).congr fun t _ => hst.out t
        have hblk2 := hblk.set T (.int .u64 (y + x * 4294967296))
        have hgr2 := gb_trans hgr (gb_trans (gb_set wr ⟨w.heap.size, T, none⟩ (.int .u64 (y + x * 4294967296))) (gb_drew _ _))
        have HN := Lib.hid (And.intro hrow2 (And.intro hblk2 hgr2))
        have hevb : ((j : Int) % 2 == 0) = false := beq_eq_false_iff_ne.2 (by omega)
        have g1 : (j : Int).tdiv 2 = (T : Int) := by rw [Int.tdiv_eq_ediv_of_nonneg (by omega)]; exact hjT
        have g2 : IntKind.i64.wrap (T : Int) = T := IntWalk.i64_in _ (by omega)
        have g3 : IntKind.u64.wrap (x * 4294967296) = x * 4294967296 := IntWalk.u64_in _ (by omega)
        have g5 : IntKind.u64.wrap (y + x * 4294967296) = y + x * 4294967296 := IntWalk.u64_in _ (by omega)
        have g6 : (0 : Int) ≤ (T : Int) := by omega
        have g7 : (T : Int) < (K : Int) := by omega
        have g8 : (0 : Int) ≤ (j : Int) := by omega
        have g9 : (j : Int) < (m : Int) := by omega
        clear hrow hblk hgr hrow2 hblk2 hgr2 hx hT hev hy hyv
        go_wp2_with fail
        go_region
        clear g1 g2 g3 g5 g6 g7 g8 g9
        go_wp2_with fail
        go_roundw
        case rel => exact ⟨j + 1, by omega, by go_num, HN.out.1.block rfl, HN.out.2.1.grown (gb_drew _ none) (by simp), HN.out.2.2⟩
        case measure => simp [intOf]; omega
    · obtain rfl : j = m := by omega
      have hfr := FrA.mk' (Nat.le_refl _) hblk hrow (Nat.le_refl _) hKb
      have hjd := HD.out.joinH (m := K) (by have := HK.out; omega) (by have := HK.out; omega)
      have HBL := Lib.hid ((Below.refl w.heap.size w).grown hgr (Nat.le_refl _) fun q hq => by injection hq with hq; omega)
      have HQ := Lib.hid (And.intro hfr hjd)
      clear hrow hblk hfr hjd hgr
      go_wp2_with fail
      go_ret
      exact ⟨_, rfl, ⟨K, jh f j, HQ.out.1, HQ.out.2⟩, HBL.out⟩

/-- the carries and digits of a multiple -/
def sc (f : Nat → Int) (F : Int) : Nat → Int
  | 0 => 0
  | i + 1 => (f i * F + sc f F i) / 4294967296
def sg (f : Nat → Int) (F : Int) (i : Nat) : Int := (f i * F + sc f F i) % 4294967296
theorem sc_bd {f : Nat → Int} {F : Int} {n : Nat} (hf : ∀ i, i < n → 0 ≤ f i ∧ f i < 4294967296) (hF : 0 ≤ F ∧ F < 4294967296) : ∀ i, i ≤ n → 0 ≤ sc f F i ∧ sc f F i < 4294967296
  | 0, _ => by simp [sc]
  | i + 1, h => by
    have h1 := sc_bd hf hF i (by omega)
    have h2 := hf i (by omega)
    have h3 : 0 ≤ f i * F := Int.mul_nonneg h2.1 hF.1
    have h4 : f i * F ≤ 4294967295 * 4294967295 := Int.mul_le_mul (by omega) (by omega) hF.1 (by omega)
    simp only [sc]; omega
theorem sc_mul {f : Nat → Int} {F : Int} {n : Nat} (hf : ∀ i, i < n → 0 ≤ f i ∧ f i < 4294967296) (hF : 0 ≤ F ∧ F < 4294967296) (i : Nat) (hi : i < n) :
    0 ≤ f i * F ∧ f i * F ≤ 18446744065119617025 ∧ 0 ≤ f i * F + sc f F i ∧ f i * F + sc f F i ≤ 18446744069414584320 := by
  have h1 := sc_bd hf hF i (by omega)
  have h2 := hf i hi
  have h3 : 0 ≤ f i * F := Int.mul_nonneg h2.1 hF.1
  have h4 : f i * F ≤ 4294967295 * 4294967295 := Int.mul_le_mul (by omega) (by omega) hF.1 (by omega)
  omega
theorem sc_dv (f : Nat → Int) (F : Int) : ∀ i, dv 4294967296 (sg f F) i + sc f F i * 4294967296 ^ i = dv 4294967296 f i * F
  | 0 => by simp [dv, sc]
  | i + 1 => by
    have ih := sc_dv f F i
    simp only [dv, sc, Int.pow_succ]
    have e : sg f F i = f i * F + sc f F i - 4294967296 * ((f i * F + sc f F i) / 4294967296) := by unfold sg; omega
    rw [e]
    obtain ⟨q, hq⟩ : ∃ q, q = (f i * F + sc f F i) / 4294967296 := ⟨_, rfl⟩
    rw [← hq]
    grind

set_option maxHeartbeats 1000000 in
set_option maxRecDepth 100000 in
theorem scaled_any (v : Value) (n : Nat) (f : Nat → Int) (F : Int) (hF : 0 ≤ F ∧ F < 4294967296) (w : World) (hn : n ≤ 1099511627776) (hf : ∀ i, i < n → 0 ≤ f i ∧ f i < 4294967296) (hr : RdA .u64 w v n f) :
    Calls Try.prog 135 #[v, .int .u64 F] w fun e w' => ∃ b g, e = .returned (.slice (some ⟨b, 0, none⟩) (n + 1) (n + 1)) ∧ w.heap.size ≤ b ∧ Blk w' b (n + 1) 22 ∧ RowAt .u64 w' b 0 (n + 1) g ∧
      (∀ i, i < n + 1 → 0 ≤ g i ∧ g i < 4294967296) ∧ dv 4294967296 g (n + 1) = dv 4294967296 f n * F ∧ Below w.heap.size w w' := by
  obtain ⟨a, cap, rfl, h1, h2, h3⟩ := wd_get hr
  have H3 := Lib.hid h3
  have HF := Lib.hid hf
  obtain ⟨F0, F1⟩ := hF
  clear h3 hr hf
  have mk : ∀ u : World, (Instr.makeSlice 54 (.int .i64 ((n : Int) + 1)) (.int .i64 ((n : Int) + 1))).run Try.prog u =
      .ok (.slice (some ⟨u.heap.size, 0, none⟩) (n + 1) (n + 1)) (u.alloc (.cells (madeCells #[.int .u64 0] (n + 1)) 22)) := by
    rw [show (n : Int) + 1 = ((n + 1 : Nat) : Int) by omega]; exact mk_wds (n + 1) (n + 1) (Nat.le_refl _) (by omega)
  go_enter Try.func135, Try.ntmps135
  go_wp2_with fail
  have hr0 := (CellsAt.row (f := fun _ => 0) (CellsAt.made w (.int .u64 0) (n + 1) 22))
  have hk0 := Blk.made w (.int .u64 0) (n + 1) 22
  have hg0 := World.grownBy_alloc w (.cells (madeCells #[.int .u64 0] (n + 1)) 22) (some w.heap.size)
  have HR0 := Lib.hid hr0
  have HK0 := Lib.hid hk0
  have HG0 := Lib.hid hg0
  clear hr0 hk0 hg0 mk
  generalize w.alloc (.cells (madeCells #[.int .u64 0] (n + 1)) 22) = w4 at HR0 HK0 HG0 ⊢
  go_loopw [6, 7] (fun cv iv wr => ∃ j : Nat, j ≤ n ∧ iv = .int .i64 j ∧ cv = .int .u64 (sc f F j) ∧ RowAt .u64 wr w.heap.size 0 (n + 1) (fun t => if t < j then sg f F t else 0) ∧ Blk wr w.heap.size (n + 1) 22 ∧ w.grownBy wr (some w.heap.size)) (fun _ iv _ => n - (intOf iv).toNat)
  case atStart => exact ⟨0, by omega, rfl, rfl, HR0.out.congr fun i _ => (if_neg (by omega)).symm, HK0.out, HG0.out⟩
  case round =>
    clear HR0 HK0 HG0
    obtain ⟨j, j1, rfl, rfl, hrow, hblk, hgr⟩ := hrel
    obtain ⟨c0, c1⟩ := sc_bd HF.out ⟨F0, F1⟩ j j1
    by_cases hj : j < n
    · obtain ⟨b, o, rfl, hc⟩ := H3.out j (by omega)
      have hc := hgr.cell hc (by simp; have := World.block_lt_of_cell? w _ hc; simp at this; omega)
      obtain ⟨m0, m1, m2, m3⟩ := sc_mul HF.out ⟨F0, F1⟩ j hj
      have hsg : Hid (sg f F j = (f j * F + sc f F j) % 4294967296) := rfl
      have hsc : Hid (sc f F (j + 1) = (f j * F + sc f F j) / 4294967296) := rfl
      obtain ⟨x0, x1⟩ := HF.out j hj
      obtain ⟨x, hx⟩ : ∃ x, x = f j := ⟨_, rfl⟩
      obtain ⟨c, hcc⟩ : ∃ c, c = sc f F j := ⟨_, rfl⟩
      rw [← hx, ← hcc] at hsg hsc
      rw [← hx] at hc x0 x1 m0 m1
      rw [← hx, ← hcc] at m2 m3
      rw [← hcc] at c0 c1 ⊢
      obtain ⟨d1, d2⟩ := hrow.get0 (i := j) (by omega) (x := 0) (if_neg (by omega))
      have hrow2 := hrow.set0 (j := j) (by omega) ((x * F + c) % 4294967296)
      have hblk2 := hblk.set j (.int .u64 ((x * F + c) % 4294967296))
      have hgr2 := gb_trans hgr (gb_set wr ⟨w.heap.size, j, none⟩ (.int .u64 ((x * F + c) % 4294967296)))
      have HN := Lib.hid (And.intro hrow2 (And.intro hblk2 hgr2))
      clear hrow hblk hgr hrow2 hblk2 hgr2 hx hcc
      go_wp2_with fail
      go_roundw
      case rel =>
        refine ⟨j + 1, by omega, by go_num, by rw [hsc.out], HN.out.1.congr fun t _ => ?_, HN.out.2.1, HN.out.2.2⟩
        by_cases e : t = j
        · rw [if_pos e, if_pos (by omega), e, hsg.out]
        · rw [if_neg e]
          by_cases e2 : t < j
          · rw [if_pos e2, if_pos (by omega)]
          · rw [if_neg e2, if_neg (by omega)]
      case measure => simp [intOf]; omega
    · obtain rfl : j = n := by omega
      have hdv := sc_dv f F j
      obtain ⟨c, hcc⟩ : ∃ c, c = sc f F j := ⟨_, rfl⟩
      rw [← hcc] at c0 c1 hdv ⊢
      obtain ⟨d1, d2⟩ := hrow.get0 (i := j) (by omega) (x := 0) (if_neg (by omega))
      have hrow2 := hrow.set0 (j := j) (by omega) c
      have hblk2 := hblk.set j (.int .u64 c)
      have hgr2 := gb_trans hgr (gb_set wr ⟨w.heap.size, j, none⟩ (.int .u64 c))
      have hb : ∀ i, i < j + 1 → 0 ≤ (if i = j then c else if i < j then sg f F i else 0) ∧ (if i = j then c else if i < j then sg f F i else 0) < 4294967296 := fun i _ => by
        have : 0 ≤ sg f F i ∧ sg f F i < 4294967296 := ⟨Int.emod_nonneg _ (by omega), Int.emod_lt_of_pos _ (by omega)⟩
        split
        · exact ⟨c0, c1⟩
        · split <;> omega
      have hv : dv 4294967296 (fun i => if i = j then c else if i < j then sg f F i else 0) (j + 1) = dv 4294967296 f j * F := by
        rw [← hdv]; simp only [dv, if_true]
        rw [dv_congr (g := sg f F) fun i hi => by rw [if_neg (by omega), if_pos hi]]
      have HN := Lib.hid (And.intro hrow2 (And.intro hblk2 hgr2))
      have HP := Lib.hid (And.intro hb hv)
      clear hrow hblk hgr hrow2 hblk2 hgr2 hcc hdv hb hv
      go_wp2_with fail
      go_ret
      exact ⟨w.heap.size, _, rfl, Nat.le_refl _, HN.out.2.1, HN.out.1, HP.out.1, HP.out.2, (Below.refl w.heap.size w).grown HN.out.2.2 (Nat.le_refl _) fun q hq => by injection hq with hq; omega⟩

end Go.Proofs.Ytdlpemmoobbgnaa
