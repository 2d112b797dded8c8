/- The walks of trellisref03.Trim, halves, words, scaled. The walks of trellisref03.words, scaled. The walks of trellisref03.goes, takeOff. Plain facts on the long division of trellisref03; the walk of divide. The walk of trellisref03.divide. The walks of trellisref03.DivMod, trellisref05.Trunc, Euclid, Mod. The walk of trellisref05.Trunc. -/
import Derived.Test.YtdlpemmoobbgnaaGC
import Derived.Deep.LoopGhost
import Derived.Deep.RegionWith
set_option linter.unusedVariables false
set_option linter.unusedSimpArgs false
namespace Go.Proofs.Ytdlpemmoobbgnaa
open Go.RowKit

set_option maxHeartbeats 400000 in
theorem Trim3_any (a : Option Addr) (n cap : Nat) (f : Nat → Int) (w : World) (hr : RdA .u64 w (.slice a n cap) n f) :
    Calls Try.prog 134 #[.slice a n cap] w fun e w' => e = .returned (.slice a (sz f n) cap) ∧ w = w' := by
  obtain ⟨a', cap', e, h1, h2, h3⟩ := wd_get hr
  simp only [Value.slice.injEq, true_and] at e
  obtain ⟨rfl, rfl⟩ := e
  have H3 := Lib.hid h3
  clear h3 hr
  go_enter Try.func134, Try.ntmps134
  go_wp2_with fail
  go_loop [3] (fun kv => ∃ k : Nat, k ≤ n ∧ Hid (sz f k = sz f n) ∧ kv = .int .i64 k) (fun kv => (intOf kv).toNat)
  case atStart => exact ⟨n, Nat.le_refl _, rfl, rfl⟩
  case round =>
    obtain ⟨k, k1, k2, rfl⟩ := hrel
    rcases Nat.eq_zero_or_pos k with e | hk
    · subst e
      go_wp2_with fail
      go_ret
      exact ⟨by rw [← k2.out]; rfl, rfl⟩
    · obtain ⟨b, o, rfl, hc⟩ := H3.out (k - 1) (by omega)
      have hk' : (0 : Int) < (k : Int) := by omega
      obtain ⟨x, hx⟩ : ∃ x, x = f (k - 1) := ⟨_, rfl⟩
      rw [← hx] at hc
      obtain ⟨q, hq⟩ : ∃ q, q = k - 1 := ⟨_, rfl⟩
      rw [← hq] at hc
      have hq1 : (k : Int) - 1 = (q : Int) := by omega
      have hq2 : q < n := by omega
      have HQ := Lib.hid hq
      have HX := Lib.hid hx
      clear hq hx
      by_cases hz : x = 0
      · have hzb : (x == 0) = true := beq_iff_eq.2 hz
        have HZ := Lib.hid hz
        clear hz
        go_wp2_with fail
        go_round
        case rel =>
          refine ⟨q, by omega, ?_, rfl⟩
          show _ = _
          rw [← k2.out, show k = q + 1 by have := HQ.out; omega]
          show _ = if f q = 0 then sz f q else q + 1
          rw [if_pos (by rw [HQ.out, ← HX.out]; exact HZ.out)]
        case measure => simp [intOf]; omega
      · have hzb : (x == 0) = false := beq_eq_false_iff_ne.2 hz
        have hfin : Hid (sz f n = k) := by
          show _ = _
          rw [← k2.out, show k = q + 1 by have := HQ.out; omega]
          show (if f q = 0 then sz f q else q + 1) = _
          rw [if_neg (by rw [HQ.out, ← HX.out]; exact hz)]
        clear hz
        go_wp2_with fail
        go_ret
        exact ⟨by rw [hfin.out]; rfl, rfl⟩

/-- fresh digits of the number N to the base 2^32 -/
def FrH (w : World) (base : Nat) (v : Value) (N : Int) : Prop := ∃ n f, FrA .u64 22 w base v n f ∧ Dig 4294967296 n f N

/-- the two digits to the base 2^32 of each word -/
def hv (f : Nat → Int) (t : Nat) : Int := if t % 2 = 0 then f (t / 2) % 4294967296 else f (t / 2) / 4294967296
theorem hv_bd {f : Nat → Int} {n : Nat} (h : ∀ i, i < n → 0 ≤ f i ∧ f i < 18446744073709551616) (t : Nat) (ht : t < 2 * n) : 0 ≤ hv f t ∧ hv f t < 4294967296 := by
  have := h (t / 2) (by omega)
  unfold hv; split <;> omega
theorem hv_dv (f : Nat → Int) : ∀ n, dv 4294967296 (hv f) (2 * n) = dv 18446744073709551616 f n
  | 0 => rfl
  | n + 1 => by
    have ih := hv_dv f n
    rw [show 2 * (n + 1) = 2 * n + 1 + 1 by omega]
    simp only [dv]
    rw [ih]
    have e0 : hv f (2 * n) = f n % 4294967296 := by unfold hv; rw [if_pos (by omega), show 2 * n / 2 = n by omega]
    have e1 : hv f (2 * n + 1) = f n / 4294967296 := by unfold hv; rw [if_neg (by omega), show (2 * n + 1) / 2 = n by omega]
    have hp : (4294967296 : Int) ^ (2 * n) = 18446744073709551616 ^ n := by rw [Int.pow_mul]; rfl
    rw [e0, e1, Int.pow_succ, hp]
    obtain ⟨q, hq⟩ : ∃ q, q = f n / 4294967296 := ⟨_, rfl⟩
    have : f n % 4294967296 = f n - 4294967296 * q := by omega
    rw [this, ← hq]
    grind

set_option maxHeartbeats 1000000 in
set_option maxRecDepth 100000 in
theorem halves_any (v : Value) (n : Nat) (f : Nat → Int) (w : World) (hn : n ≤ 1099511627776) (hr : RdW w v n f) :
    Calls Try.prog 131 #[v] w fun e w' => ∃ v', e = .returned v' ∧ FrH w' w.heap.size v' (natFrom f 0 n) ∧ Below w.heap.size w w' := by
  obtain ⟨hr, hw⟩ := hr
  obtain ⟨a, cap, rfl, h1, h2, h3⟩ := wd_get hr
  have hle := sz_le f n
  have htr := Trim3_any a n cap f w hr
  obtain ⟨m, hm⟩ : ∃ m, m = sz f n := ⟨_, rfl⟩
  have hval : dv 18446744073709551616 f m = natFrom f 0 n := by rw [natFrom_dv0, hm]; exact (dig_sz (words_bd hw)).val
  rw [← hm] at hle htr
  have H3 := Lib.hid h3
  have HW := Lib.hid hw
  have HT := Lib.hid htr
  have HV := Lib.hid hval
  clear h3 hr hw hm htr hval
  obtain ⟨K, hK⟩ : ∃ K, K = 2 * m := ⟨_, rfl⟩
  have hKb : K ≤ 17592186044416 := by omega
  have mk : ∀ u : World, (Instr.makeSlice 54 (.int .i64 (2 * (m : Int))) (.int .i64 (2 * (m : Int)))).run Try.prog u =
      .ok (.slice (some ⟨u.heap.size, 0, none⟩) K K) (u.alloc (.cells (madeCells #[.int .u64 0] K) 22)) := by
    rw [show 2 * (m : Int) = (K : Int) by omega]; exact mk_wds K K (Nat.le_refl _) hKb
  have HK := Lib.hid hK
  clear hK
  go_enter Try.func131, Try.ntmps131
  go_wp2_with (go_at_call 134; (with_reducible refine HT.out.mono ?_); rintro e w3 ⟨rfl, rfl⟩)
  have hr0 := (CellsAt.row (f := fun _ => 0) (CellsAt.made w (.int .u64 0) K 22))
  have hk0 := Blk.made w (.int .u64 0) K 22
  have hg0 := World.grownBy_alloc w (.cells (madeCells #[.int .u64 0] K) 22) (some w.heap.size)
  have HR0 := Lib.hid hr0
  have HK0 := Lib.hid hk0
  have HG0 := Lib.hid hg0
  clear hr0 hk0 hg0 mk
  generalize w.alloc (.cells (madeCells #[.int .u64 0] K) 22) = w4 at HR0 HK0 HG0 ⊢
  go_loopw [4] (fun iv wr => ∃ j : Nat, j ≤ m ∧ iv = .int .i64 j ∧ RowAt .u64 wr w.heap.size 0 K (fun t => if t < 2 * j then hv f t else 0) ∧ Blk wr w.heap.size K 22 ∧ w.grownBy wr (some w.heap.size)) (fun iv _ => m - (intOf iv).toNat)
  case atStart => exact ⟨0, by omega, rfl, HR0.out.congr fun i _ => (if_neg (by omega)).symm, HK0.out, HG0.out⟩
  case round =>
    clear HR0 HK0 HG0
    obtain ⟨j, j1, rfl, hrow, hblk, hgr⟩ := hrel
    by_cases hj : j < m
    · obtain ⟨b, o, rfl, hc⟩ := H3.out j (by omega)
      have hc := hgr.cell hc (by simp; have := World.block_lt_of_cell? w _ hc; simp at this; omega)
      obtain ⟨x, hx⟩ : ∃ x, x = f j := ⟨_, rfl⟩
      obtain ⟨x0, x1⟩ := HW.out j (by omega)
      rw [← hx] at hc x0 x1
      have hK0 : 2 * j < K := by have := HK.out; omega
      have hK1 : 2 * j + 1 < K := by have := HK.out; omega
      obtain ⟨d1, d2⟩ := hrow.get0 (i := 2 * j) hK0 (x := 0) (if_neg (by omega))
      obtain ⟨d3, d4⟩ := hrow.get0 (i := 2 * j + 1) hK1 (x := 0) (if_neg (by omega))
      have hrow2 := (hrow.set0 hK0 (x % 4294967296)).set0 hK1 (x / 4294967296)
      have hblk2 := (hblk.set (2 * j) (.int .u64 (x % 4294967296))).set (2 * j + 1) (.int .u64 (x / 4294967296))
      have hgr2 := gb_trans hgr (gb_trans (gb_set wr ⟨w.heap.size, 2 * j, none⟩ (.int .u64 (x % 4294967296))) (gb_set _ ⟨w.heap.size, 2 * j + 1, none⟩ (.int .u64 (x / 4294967296))))
      have HN := Lib.hid (And.intro hrow2 (And.intro hblk2 hgr2))
      have HX := Lib.hid hx
      have hne : b ≠ w.heap.size := by
        obtain ⟨_, _, e, h⟩ := H3.out j (by omega)
        have := World.block_lt_of_cell? w _ h
        injection e with e; injection e with e1 _ _; subst e1; simp at this; omega
      have hc2 : (wr.setCell ⟨w.heap.size, 2 * j, none⟩ (.int .u64 (x % 4294967296))).cell? ⟨b, o + j, none⟩ = some (.int .u64 x) := by
        rw [World.cell?_setCell_other _ _ _ _ (by intro e'; injection e' with e2 _ _; omega)]; exact hc
      clear hrow hblk hgr hrow2 hblk2 hgr2 hx
      go_wp2_with fail
      go_roundw
      case rel =>
        refine ⟨j + 1, by omega, by go_num, HN.out.1.congr fun t _ => ?_, HN.out.2.1, HN.out.2.2⟩
        by_cases e : t = 2 * j + 1
        · rw [if_pos e, if_pos (by omega), HX.out]; unfold hv; rw [if_neg (by omega), show t / 2 = j by omega]
        · rw [if_neg e]
          by_cases e2 : t = 2 * j
          · rw [if_pos e2, if_pos (by omega), HX.out]; unfold hv; rw [if_pos (by omega), show t / 2 = j by omega]
          · rw [if_neg e2]
            by_cases e3 : t < 2 * j
            · rw [if_pos e3, if_pos (by omega)]
            · rw [if_neg e3, if_neg (by omega)]
      case measure => simp [intOf]; omega
    · obtain rfl : j = m := by omega
      have hrow : RowAt .u64 wr w.heap.size 0 K (hv f) := hrow.congr fun t ht => if_pos (by have := HK.out; omega)
      have hfr := FrA.mk' (Nat.le_refl _) hblk hrow (Nat.le_refl _) hKb
      have hdg : Dig 4294967296 (sz (hv f) K) (hv f) (natFrom f 0 n) := by
        have := dig_sz (B := 4294967296) (f := hv f) (n := 2 * j) (fun i hi => hv_bd (n := j) (fun i hi => by have := HW.out i (by omega); omega) i hi)
        rw [hv_dv, HV.out] at this
        rw [HK.out]; exact this
      have hq := hfr.take (sz_le (hv f) K)
      have htr := Trim3_any _ K K _ wr hfr.read
      have HTR := Lib.hid htr
      have HBL := Lib.hid ((Below.refl w.heap.size w).grown hgr (Nat.le_refl _) fun q hq => by injection hq with hq; omega)
      have HQ := Lib.hid (And.intro hq hdg)
      clear hrow hblk hfr hdg hq htr hgr
      go_wp2_with (go_at_call 134; (with_reducible refine HTR.out.mono ?_); rintro e w3 ⟨rfl, rfl⟩)
      go_ret
      exact ⟨_, rfl, ⟨_, hv f, HQ.out.1, HQ.out.2⟩, HBL.out⟩

end Go.Proofs.Ytdlpemmoobbgnaa

namespace Go.Proofs.Ytdlpemmoobbgnaa
open Go.RowKit

/-- the words when the digits before i have been put in -/
def jh (f : Nat → Int) (i t : Nat) : Int := (if 2 * t < i then f (2 * t) else 0) + 4294967296 * (if 2 * t + 1 < i then f (2 * t + 1) else 0)
theorem jh_bd {f : Nat → Int} {n : Nat} (h : ∀ i, i < n → 0 ≤ f i ∧ f i < 4294967296) (t : Nat) : 0 ≤ jh f n t ∧ jh f n t < 18446744073709551616 := by
  unfold jh
  have a (k : Nat) : 0 ≤ (if k < n then f k else 0) ∧ (if k < n then f k else 0) < 4294967296 := by
    split
    · exact h k (by assumption)
    · omega
  have := a (2 * t); have := a (2 * t + 1)
  omega
theorem jh_dv (f : Nat → Int) (n : Nat) : ∀ m, dv 18446744073709551616 (jh f n) m = dv 4294967296 (fun i => if i < n then f i else 0) (2 * m)
  | 0 => rfl
  | m + 1 => by
    rw [show 2 * (m + 1) = 2 * m + 1 + 1 by omega]
    simp only [dv]
    rw [← jh_dv f n m]
    have hp : (4294967296 : Int) ^ (2 * m) = 18446744073709551616 ^ m := by rw [Int.pow_mul]; rfl
    rw [Int.pow_succ, hp]
    unfold jh
    grind
theorem Dig.joinH {n : Nat} {f : Nat → Int} {N : Int} (h : Dig 4294967296 n f N) {m : Nat} (h1 : n ≤ 2 * m) (h2 : 2 * m < n + 2) : Dig 18446744073709551616 m (jh f n) N := by
  refine ⟨fun i _ => jh_bd h.bd i, fun hm => ?_, ?_⟩
  · have ht := h.top (by omega)
    have a (k : Nat) : 0 ≤ (if k < n then f k else 0) := by
      split
      · exact (h.bd k (by assumption)).1
      · omega
    have := a (2 * (m - 1)); have := a (2 * (m - 1) + 1)
    have hn := h.bd (n - 1) (by omega)
    obtain ⟨k, hk, e⟩ : ∃ k, k < 2 ∧ n - 1 = 2 * (m - 1) + k := ⟨n - 1 - 2 * (m - 1), by omega, by omega⟩
    have hf : (if 2 * (m - 1) + k < n then f (2 * (m - 1) + k) else 0) ≠ 0 := by rw [if_pos (by omega), ← e]; exact ht
    unfold jh
    rcases (by omega : k = 0 ∨ k = 1) with r | r <;> subst r <;> (try simp only [Nat.add_zero] at hf) <;> omega
  · rw [jh_dv, dv_more h1 (fun i hi _ => if_neg (by omega)), ← h.val]
    exact dv_congr fun i hi => if_pos hi

set_option maxHeartbeats 1000000 in
set_option maxRecDepth 100000 in
theorem words3_any (a : Option Addr) (n cap : Nat) (f : Nat → Int) (w : World) (hn : n ≤ 1099511627776) (hf : ∀ i, i < n → 0 ≤ f i ∧ f i < 4294967296) (hr : RdA .u64 w (.slice a n cap) n f) :
    Calls Try.prog 133 #[.slice a n cap] w fun e w' => ∃ v', e = .returned v' ∧ FrN w' w.heap.size v' (dv 4294967296 f n) ∧ Below w.heap.size w w' := by
  have htr := Trim3_any a n cap f w hr
  obtain ⟨a', cap', e, h1, h2, h3⟩ := wd_get hr
  simp only [Value.slice.injEq, true_and] at e
  obtain ⟨rfl, rfl⟩ := e
  have hle := sz_le f n
  have hdg := dig_sz hf
  obtain ⟨m, hm⟩ : ∃ m, m = sz f n := ⟨_, rfl⟩
  rw [← hm] at hle htr hdg
  have H3 := Lib.hid h3
  have HT := Lib.hid htr
  have HD := Lib.hid hdg
  clear h3 hr hm htr hdg hf
  obtain ⟨K, hK⟩ : ∃ K, K = (m + 1) / 2 := ⟨_, rfl⟩
  have hKb : K ≤ 17592186044416 := by omega
  have mk : ∀ u : World, (Instr.makeSlice 54 (.int .i64 (((m : Int) + 1) / 2)) (.int .i64 (((m : Int) + 1) / 2))).run Try.prog u =
      .ok (.slice (some ⟨u.heap.size, 0, none⟩) K K) (u.alloc (.cells (madeCells #[.int .u64 0] K) 22)) := by
    rw [show ((m : Int) + 1) / 2 = (K : Int) by omega]; exact mk_wds K K (Nat.le_refl _) hKb
  have HK := Lib.hid hK
  clear hK
  go_enter Try.func133, Try.ntmps133
  go_wp2_with (go_at_call 134; (with_reducible refine HT.out.mono ?_); rintro e w3 ⟨rfl, rfl⟩)
  have hr0 := (CellsAt.row (f := fun _ => 0) (CellsAt.made w (.int .u64 0) K 22))
  have hk0 := Blk.made w (.int .u64 0) K 22
  have hg0 := World.grownBy_alloc w (.cells (madeCells #[.int .u64 0] K) 22) (some w.heap.size)
  have HR0 := Lib.hid hr0
  have HK0 := Lib.hid hk0
  have HG0 := Lib.hid hg0
  clear hr0 hk0 hg0 mk
  generalize w.alloc (.cells (madeCells #[.int .u64 0] K) 22) = w4 at HR0 HK0 HG0 ⊢
  go_loopw [4] (fun iv wr => ∃ j : Nat, j ≤ m ∧ iv = .int .i64 j ∧ RowAt .u64 wr w.heap.size 0 K (jh f j) ∧ Blk wr w.heap.size K 22 ∧ w.grownBy wr (some w.heap.size)) (fun iv _ => m - (intOf iv).toNat)
  case atStart => exact ⟨0, by omega, rfl, HR0.out.congr fun i _ => by unfold jh; rw [if_neg (by omega), if_neg (by omega)]; rfl, HK0.out, HG0.out⟩
  case round =>
    clear HR0 HK0 HG0
    obtain ⟨j, j1, rfl, hrow, hblk, hgr⟩ := hrel
    by_cases hj : j < m
    · obtain ⟨b, o, rfl, hc⟩ := H3.out j (by omega)
      have hc := hgr.cell hc (by simp; have := World.block_lt_of_cell? w _ hc; simp at this; omega)
      obtain ⟨x, hx⟩ : ∃ x, x = f j := ⟨_, rfl⟩
      obtain ⟨x0, x1⟩ := HD.out.bd j hj
      rw [← hx] at hc x0 x1
      obtain ⟨T, hT⟩ : ∃ T, T = j / 2 := ⟨_, rfl⟩
      have hTK : T < K := by have := HK.out; omega
      have hjT : (j : Int) / 2 = (T : Int) := by omega
      by_cases hev : j % 2 = 0
      · have hst : Hid (∀ t, (if t = T then x else jh f j t) = jh f (j + 1) t) := fun t => by
          by_cases e : t = T
          · rw [if_pos e]; unfold jh; rw [if_pos (by omega), if_neg (by omega), hx, show 2 * t = j by omega]; omega
          · rw [if_neg e]; unfold jh
            congr 1
            · by_cases e2 : 2 * t < j
              · rw [if_pos e2, if_pos (by omega)]
              · rw [if_neg e2, if_neg (by omega)]
            · congr 1
              by_cases e2 : 2 * t + 1 < j
              · rw [if_pos e2, if_pos (by omega)]
              · rw [if_neg e2, if_neg (by omega)]
        obtain ⟨d1, d2⟩ := hrow.get0 (i := T) hTK rfl
        have hrow2 := (hrow.set0 hTK x).congr fun t _ => hst.out t
        have hblk2 := hblk.set T (.int .u64 x)
        have hgr2 := gb_trans hgr (gb_set wr ⟨w.heap.size, T, none⟩ (.int .u64 x))
        have HN := Lib.hid (And.intro hrow2 (And.intro hblk2 hgr2))
        have hevb : ((j : Int) % 2 == 0) = true := beq_iff_eq.2 (by omega)
        clear hrow hblk hgr hrow2 hblk2 hgr2 hx hT hev
        go_wp2_with fail
        go_roundw
        case rel => exact ⟨j + 1, by omega, by go_num, HN.out.1, HN.out.2.1, HN.out.2.2⟩
        case measure => simp [intOf]; omega
      · obtain ⟨y, hy⟩ : ∃ y, y = jh f j T := ⟨_, rfl⟩
        have hyv : y = f (2 * T) := by rw [hy]; unfold jh; rw [if_pos (by omega), if_neg (by omega)]; omega
        obtain ⟨y0, y1⟩ := HD.out.bd (2 * T) (by omega)
        rw [← hyv] at y0 y1
        have hst : Hid (∀ t, (if t = T then y + x * 4294967296 else jh f j t) = jh f (j + 1) t) := fun t => by
          by_cases e : t = T
          · rw [if_pos e]; unfold jh; rw [if_pos (by omega), if_pos (by omega), hx, hyv, e, show 2 * T + 1 = j by omega]; omega
          · rw [if_neg e]; unfold jh
            congr 1
            · by_cases e2 : 2 * t < j
              · rw [if_pos e2, if_pos (by omega)]
              · rw [if_neg e2, if_neg (by omega)]
            · congr 1
              by_cases e2 : 2 * t + 1 < j
              · rw [if_pos e2, if_pos (by omega)]
              · rw [if_neg e2, if_neg (by omega)]
        obtain ⟨d1, d2⟩ := hrow.get0 (i := T) hTK hy.symm
        have hrow2 := (hrow.set0 hTK (y + x * 4294967296)).congr fun t _ => hst.out t
        have hblk2 := hblk.set T (.int .u64 (y + x * 4294967296))
        have hgr2 := gb_trans hgr (gb_trans (gb_set wr ⟨w.heap.size, T, none⟩ (.int .u64 (y + x * 4294967296))) (gb_drew _ _))
        have HN := Lib.hid (And.intro hrow2 (And.intro hblk2 hgr2))
        have hevb : ((j : Int) % 2 == 0) = false := beq_eq_false_iff_ne.2 (by omega)
        have g1 : (j : Int).tdiv 2 = (T : Int) := by rw [Int.tdiv_eq_ediv_of_nonneg (by omega)]; exact hjT
        have g2 : IntKind.i64.wrap (T : Int) = T := IntWalk.i64_in _ (by omega)
        have g3 : IntKind.u64.wrap (x * 4294967296) = x * 4294967296 := IntWalk.u64_in _ (by omega)
        have g5 : IntKind.u64.wrap (y + x * 4294967296) = y + x * 4294967296 := IntWalk.u64_in _ (by omega)
        have g6 : (0 : Int) ≤ (T : Int) := by omega
        have g7 : (T : Int) < (K : Int) := by omega
        have g8 : (0 : Int) ≤ (j : Int) := by omega
        have g9 : (j : Int) < (m : Int) := by omega
        clear hrow hblk hgr hrow2 hblk2 hgr2 hx hT hev hy hyv
        go_wp2_with fail
        go_region
        clear g1 g2 g3 g5 g6 g7 g8 g9
        go_wp2_with fail
        go_roundw
        case rel => exact ⟨j + 1, by omega, by go_num, HN.out.1.block rfl, HN.out.2.1.grown (gb_drew _ none) (by simp), HN.out.2.2⟩
        case measure => simp [intOf]; omega
    · obtain rfl : j = m := by omega
      have hfr := FrA.mk' (Nat.le_refl _) hblk hrow (Nat.le_refl _) hKb
      have hjd := HD.out.joinH (m := K) (by have := HK.out; omega) (by have := HK.out; omega)
      have HBL := Lib.hid ((Below.refl w.heap.size w).grown hgr (Nat.le_refl _) fun q hq => by injection hq with hq; omega)
      have HQ := Lib.hid (And.intro hfr hjd)
      clear hrow hblk hfr hjd hgr
      go_wp2_with fail
      go_ret
      exact ⟨_, rfl, ⟨K, jh f j, HQ.out.1, HQ.out.2⟩, HBL.out⟩

/-- the carries and digits of a multiple -/
def sc (f : Nat → Int) (F : Int) : Nat → Int
  | 0 => 0
  | i + 1 => (f i * F + sc f F i) / 4294967296
def sg (f : Nat → Int) (F : Int) (i : Nat) : Int := (f i * F + sc f F i) % 4294967296
theorem sc_bd {f : Nat → Int} {F : Int} {n : Nat} (hf : ∀ i, i < n → 0 ≤ f i ∧ f i < 4294967296) (hF : 0 ≤ F ∧ F < 4294967296) : ∀ i, i ≤ n → 0 ≤ sc f F i ∧ sc f F i < 4294967296
  | 0, _ => by simp [sc]
  | i + 1, h => by
    have h1 := sc_bd hf hF i (by omega)
    have h2 := hf i (by omega)
    have h3 : 0 ≤ f i * F := Int.mul_nonneg h2.1 hF.1
    have h4 : f i * F ≤ 4294967295 * 4294967295 := Int.mul_le_mul (by omega) (by omega) hF.1 (by omega)
    simp only [sc]; omega
theorem sc_mul {f : Nat → Int} {F : Int} {n : Nat} (hf : ∀ i, i < n → 0 ≤ f i ∧ f i < 4294967296) (hF : 0 ≤ F ∧ F < 4294967296) (i : Nat) (hi : i < n) :
    0 ≤ f i * F ∧ f i * F ≤ 18446744065119617025 ∧ 0 ≤ f i * F + sc f F i ∧ f i * F + sc f F i ≤ 18446744069414584320 := by
  have h1 := sc_bd hf hF i (by omega)
  have h2 := hf i hi
  have h3 : 0 ≤ f i * F := Int.mul_nonneg h2.1 hF.1
  have h4 : f i * F ≤ 4294967295 * 4294967295 := Int.mul_le_mul (by omega) (by omega) hF.1 (by omega)
  omega
theorem sc_dv (f : Nat → Int) (F : Int) : ∀ i, dv 4294967296 (sg f F) i + sc f F i * 4294967296 ^ i = dv 4294967296 f i * F
  | 0 => by simp [dv, sc]
  | i + 1 => by
    have ih := sc_dv f F i
    simp only [dv, sc, Int.pow_succ]
    have e : sg f F i = f i * F + sc f F i - 4294967296 * ((f i * F + sc f F i) / 4294967296) := by unfold sg; omega
    rw [e]
    obtain ⟨q, hq⟩ : ∃ q, q = (f i * F + sc f F i) / 4294967296 := ⟨_, rfl⟩
    rw [← hq]
    grind

set_option maxHeartbeats 1000000 in
set_option maxRecDepth 100000 in
theorem scaled_any (v : Value) (n : Nat) (f : Nat → Int) (F : Int) (hF : 0 ≤ F ∧ F < 4294967296) (w : World) (hn : n ≤ 1099511627776) (hf : ∀ i, i < n → 0 ≤ f i ∧ f i < 4294967296) (hr : RdA .u64 w v n f) :
    Calls Try.prog 135 #[v, .int .u64 F] w fun e w' => ∃ b g, e = .returned (.slice (some ⟨b, 0, none⟩) (n + 1) (n + 1)) ∧ w.heap.size ≤ b ∧ Blk w' b (n + 1) 22 ∧ RowAt .u64 w' b 0 (n + 1) g ∧
      (∀ i, i < n + 1 → 0 ≤ g i ∧ g i < 4294967296) ∧ dv 4294967296 g (n + 1) = dv 4294967296 f n * F ∧ Below w.heap.size w w' := by
  obtain ⟨a, cap, rfl, h1, h2, h3⟩ := wd_get hr
  have H3 := Lib.hid h3
  have HF := Lib.hid hf
  obtain ⟨F0, F1⟩ := hF
  clear h3 hr hf
  have mk : ∀ u : World, (Instr.makeSlice 54 (.int .i64 ((n : Int) + 1)) (.int .i64 ((n : Int) + 1))).run Try.prog u =
      .ok (.slice (some ⟨u.heap.size, 0, none⟩) (n + 1) (n + 1)) (u.alloc (.cells (madeCells #[.int .u64 0] (n + 1)) 22)) := by
    rw [show (n : Int) + 1 = ((n + 1 : Nat) : Int) by omega]; exact mk_wds (n + 1) (n + 1) (Nat.le_refl _) (by omega)
  go_enter Try.func135, Try.ntmps135
  go_wp2_with fail
  have hr0 := (CellsAt.row (f := fun _ => 0) (CellsAt.made w (.int .u64 0) (n + 1) 22))
  have hk0 := Blk.made w (.int .u64 0) (n + 1) 22
  have hg0 := World.grownBy_alloc w (.cells (madeCells #[.int .u64 0] (n + 1)) 22) (some w.heap.size)
  have HR0 := Lib.hid hr0
  have HK0 := Lib.hid hk0
  have HG0 := Lib.hid hg0
  clear hr0 hk0 hg0 mk
  generalize w.alloc (.cells (madeCells #[.int .u64 0] (n + 1)) 22) = w4 at HR0 HK0 HG0 ⊢
  go_loopw [6, 7] (fun cv iv wr => ∃ j : Nat, j ≤ n ∧ iv = .int .i64 j ∧ cv = .int .u64 (sc f F j) ∧ RowAt .u64 wr w.heap.size 0 (n + 1) (fun t => if t < j then sg f F t else 0) ∧ Blk wr w.heap.size (n + 1) 22 ∧ w.grownBy wr (some w.heap.size)) (fun _ iv _ => n - (intOf iv).toNat)
  case atStart => exact ⟨0, by omega, rfl, rfl, HR0.out.congr fun i _ => (if_neg (by omega)).symm, HK0.out, HG0.out⟩
  case round =>
    clear HR0 HK0 HG0
    obtain ⟨j, j1, rfl, rfl, hrow, hblk, hgr⟩ := hrel
    obtain ⟨c0, c1⟩ := sc_bd HF.out ⟨F0, F1⟩ j j1
    by_cases hj : j < n
    · obtain ⟨b, o, rfl, hc⟩ := H3.out j (by omega)
      have hc := hgr.cell hc (by simp; have := World.block_lt_of_cell? w _ hc; simp at this; omega)
      obtain ⟨m0, m1, m2, m3⟩ := sc_mul HF.out ⟨F0, F1⟩ j hj
      have hsg : Hid (sg f F j = (f j * F + sc f F j) % 4294967296) := rfl
      have hsc : Hid (sc f F (j + 1) = (f j * F + sc f F j) / 4294967296) := rfl
      obtain ⟨x0, x1⟩ := HF.out j hj
      obtain ⟨x, hx⟩ : ∃ x, x = f j := ⟨_, rfl⟩
      obtain ⟨c, hcc⟩ : ∃ c, c = sc f F j := ⟨_, rfl⟩
      rw [← hx, ← hcc] at hsg hsc
      rw [← hx] at hc x0 x1 m0 m1
      rw [← hx, ← hcc] at m2 m3
      rw [← hcc] at c0 c1 ⊢
      obtain ⟨d1, d2⟩ := hrow.get0 (i := j) (by omega) (x := 0) (if_neg (by omega))
      have hrow2 := hrow.set0 (j := j) (by omega) ((x * F + c) % 4294967296)
      have hblk2 := hblk.set j (.int .u64 ((x * F + c) % 4294967296))
      have hgr2 := gb_trans hgr (gb_set wr ⟨w.heap.size, j, none⟩ (.int .u64 ((x * F + c) % 4294967296)))
      have HN := Lib.hid (And.intro hrow2 (And.intro hblk2 hgr2))
      clear hrow hblk hgr hrow2 hblk2 hgr2 hx hcc
      go_wp2_with fail
      go_roundw
      case rel =>
        refine ⟨j + 1, by omega, by go_num, by rw [hsc.out], HN.out.1.congr fun t _ => ?_, HN.out.2.1, HN.out.2.2⟩
        by_cases e : t = j
        · rw [if_pos e, if_pos (by omega), e, hsg.out]
        · rw [if_neg e]
          by_cases e2 : t < j
          · rw [if_pos e2, if_pos (by omega)]
          · rw [if_neg e2, if_neg (by omega)]
      case measure => simp [intOf]; omega
    · obtain rfl : j = n := by omega
      have hdv := sc_dv f F j
      obtain ⟨c, hcc⟩ : ∃ c, c = sc f F j := ⟨_, rfl⟩
      rw [← hcc] at c0 c1 hdv ⊢
      obtain ⟨d1, d2⟩ := hrow.get0 (i := j) (by omega) (x := 0) (if_neg (by omega))
      have hrow2 := hrow.set0 (j := j) (by omega) c
      have hblk2 := hblk.set j (.int .u64 c)
      have hgr2 := gb_trans hgr (gb_set wr ⟨w.heap.size, j, none⟩ (.int .u64 c))
      have hb : ∀ i, i < j + 1 → 0 ≤ (if i = j then c else if i < j then sg f F i else 0) ∧ (if i = j then c else if i < j then sg f F i else 0) < 4294967296 := fun i _ => by
        have : 0 ≤ sg f F i ∧ sg f F i < 4294967296 := ⟨Int.emod_nonneg _ (by omega), Int.emod_lt_of_pos _ (by omega)⟩
        split
        · exact ⟨c0, c1⟩
        · split <;> omega
      have hv : dv 4294967296 (fun i => if i = j then c else if i < j then sg f F i else 0) (j + 1) = dv 4294967296 f j * F := by
        rw [← hdv]; simp only [dv, if_true]
        rw [dv_congr (g := sg f F) fun i hi => by rw [if_neg (by omega), if_pos hi]]
      have HN := Lib.hid (And.intro hrow2 (And.intro hblk2 hgr2))
      have HP := Lib.hid (And.intro hb hv)
      clear hrow hblk hgr hrow2 hblk2 hgr2 hcc hdv hb hv
      go_wp2_with fail
      go_ret
      exact ⟨w.heap.size, _, rfl, Nat.le_refl _, HN.out.2.1, HN.out.1, HP.out.1, HP.out.2, (Below.refl w.heap.size w).grown HN.out.2.2 (Nat.le_refl _) fun q hq => by injection hq with hq; omega⟩

end Go.Proofs.Ytdlpemmoobbgnaa

namespace Go.Proofs.Ytdlpemmoobbgnaa
open Go.RowKit

/-- the number that stands from the place s on -/
def up (g : Nat → Int) (K s : Nat) : Int := dv 4294967296 (fun t => g (s + t)) (K - s)

theorem up_split (g : Nat → Int) {K s : Nat} (h : s ≤ K) : dv 4294967296 g K = dv 4294967296 g s + 4294967296 ^ s * up g K s := by
  have := dv_split 4294967296 g s (K - s)
  rw [show s + (K - s) = K by omega] at this; exact this
theorem up_ge {g : Nat → Int} {K s : Nat} (hg : ∀ t, t < K → 0 ≤ g t ∧ g t < 4294967296) (h : s ≤ K) (D : Int) : D ≤ up g K s ↔ D * 4294967296 ^ s ≤ dv 4294967296 g K := by
  have h1 := dv_bd (B := 4294967296) (by omega) (n := s) (fun t ht => hg t (by omega))
  have hp := pow_pos' (show (0 : Int) < 4294967296 by omega) s
  rw [up_split g h]
  constructor
  · intro hD
    have := Int.mul_le_mul_of_nonneg_right hD (show (0 : Int) ≤ 4294967296 ^ s by omega)
    rw [Int.mul_comm (4294967296 ^ s)]; omega
  · intro hD
    refine Int.not_lt.1 fun hlt => ?_
    have : (up g K s + 1) * 4294967296 ^ s ≤ D * 4294967296 ^ s := Int.mul_le_mul_of_nonneg_right (by omega) (by omega)
    rw [Int.add_mul, Int.one_mul, Int.mul_comm (up g K s)] at this; omega

/-- with one place more than b has, or none -/
theorem up_top {g : Nat → Int} {K s m : Nat} (hs : s + m < K) (hz : ∀ t, s + m < t → t < K → g t = 0) : up g K s = dv 4294967296 (fun t => g (s + t)) m + g (s + m) * 4294967296 ^ m := by
  unfold up
  rw [dv_more (m := m + 1) (by omega) (fun i h1 h2 => hz (s + i) (by omega) (by omega))]
  rfl

set_option maxHeartbeats 1000000 in
set_option maxRecDepth 100000 in
theorem goes_any (x y : Value) (K m s : Nat) (g d : Nat → Int) (w : World) (hK : K ≤ 1099511627777) (hs : s + m ≤ K) (hx : RdA .u64 w x K g) (hy : RdA .u64 w y m d)
    (hg : ∀ t, t < K → 0 ≤ g t ∧ g t < 4294967296) (hd : ∀ t, t < m → 0 ≤ d t ∧ d t < 4294967296) (hz : ∀ t, s + m < t → t < K → g t = 0) :
    Calls Try.prog 136 #[x, y, .int .i64 s] w fun e w' => e = .returned (.bool (decide (dv 4294967296 d m ≤ up g K s))) ∧ Below w.heap.size w w' := by
  obtain ⟨a, cap, rfl, h1, h2, h3⟩ := wd_get hx
  obtain ⟨b, cap', rfl, g1, g2, g3⟩ := wd_get hy
  have H3 := Lib.hid h3
  have G3 := Lib.hid g3
  have HG := Lib.hid hg
  have HD := Lib.hid hd
  have HZ := Lib.hid hz
  have hgs : ∀ t, t < m → 0 ≤ g (s + t) ∧ g (s + t) < 4294967296 := fun t ht => hg (s + t) (by omega)
  have HGS := Lib.hid hgs
  clear h3 g3 hx hy hg hd hz hgs
  have key : (s + m < K ∧ 0 < g (s + m)) ∨ (¬ (s + m < K ∧ 0 < g (s + m))) := Classical.em _
  rcases key with ⟨k1, k2⟩ | k
  · have e : Hid (decide (dv 4294967296 d m ≤ up g K s) = true) := by
      show _ = _
      rw [decide_eq_true_eq, up_top k1 HZ.out]
      have hb1 := dv_bd (by omega) HD.out
      have hb2 := dv_bd (by omega) HGS.out
      have hp := pow_pos' (show (0 : Int) < 4294967296 by omega) m
      have : 1 * (4294967296 : Int) ^ m ≤ g (s + m) * 4294967296 ^ m := Int.mul_le_mul_of_nonneg_right (by omega) (by omega)
      omega
    obtain ⟨b1, o1, rfl, hc⟩ := H3.out (s + m) k1
    obtain ⟨u, hu⟩ : ∃ u, u = g (s + m) := ⟨_, rfl⟩
    rw [← hu] at hc k2
    have k1' : (s : Int) + m < K := by omega
    clear hu
    go_enter Try.func136, Try.ntmps136
    go_wp2_with fail
    go_ret
    exact ⟨ret_bool e.out.symm, Below.refl _ _⟩
  · have hup : Hid (up g K s = dv 4294967296 (fun t => g (s + t)) m) := by
      show _ = _
      by_cases hlt : s + m < K
      · have : g (s + m) = 0 := by have := HG.out (s + m) hlt; omega
        rw [up_top hlt HZ.out, this]; simp
      · unfold up; rw [show K - s = m by omega]
    have main : ∀ (wr : World), Below w.heap.size w wr → True := fun _ _ => trivial
    clear main
    have hpre : (¬ s + m < K) ∨ (s + m < K ∧ g (s + m) = 0) := by
      by_cases hlt : s + m < K
      · right; refine ⟨hlt, ?_⟩; have := HG.out (s + m) hlt; omega
      · exact Or.inl hlt
    clear k
    rcases hpre with hno | ⟨hlt, hg0⟩
    · have hno' : ¬ (s : Int) + m < K := by omega
      clear hno
      go_enter Try.func136, Try.ntmps136
      go_wp2_with fail
      go_loopw [8] (fun kv wr => ∃ k : Nat, k ≤ m ∧ Hid (∀ i, k ≤ i → i < m → g (s + i) = d i) ∧ kv = .int .i64 ((k : Int) - 1) ∧ Below w.heap.size w wr) (fun kv _ => (intOf kv + 1).toNat)
      case atStart => exact ⟨m, Nat.le_refl _, fun i h1 h2 => absurd h1 (by omega), rfl, Below.refl _ _⟩
      case round =>
        obtain ⟨k, k1, k2, rfl, hb⟩ := hrel
        rcases k with _ | j
        · have e : Hid (decide (dv 4294967296 d m ≤ up g K s) = true) := by
            show _ = _
            rw [decide_eq_true_eq, hup.out, dv_congr (f := fun t => g (s + t)) (g := d) fun i hi => k2.out i (Nat.zero_le _) hi]
            exact Int.le_refl _
          go_wp2_with fail
          go_ret
          exact ⟨ret_bool e.out.symm, hb⟩
        · obtain ⟨b1, o1, rfl, hc⟩ := H3.out (s + j) (by omega)
          obtain ⟨b2, o2, rfl, hd⟩ := G3.out j (by omega)
          obtain ⟨u, hu⟩ : ∃ u, u = g (s + j) := ⟨_, rfl⟩
          obtain ⟨v, hv⟩ : ∃ v, v = d j := ⟨_, rfl⟩
          rw [← hu] at hc
          rw [← hv] at hd
          have hc := cell_stays hb hc
          have hd := cell_stays hb hd
          have HU := Lib.hid hu
          have HV := Lib.hid hv
          obtain ⟨q, hq⟩ : ∃ q, q = s + j := ⟨_, rfl⟩
          rw [← hq] at hc
          have hq1 : (s : Int) + j = (q : Int) := by omega
          have g1' : IntKind.i64.wrap ((q : Nat) : Int) = q := IntWalk.i64_in _ (by omega)
          have g2' : IntKind.i64.wrap ((s : Int) + j) = q := by rw [hq1]; exact g1'
          have g3' : (0 : Int) ≤ (q : Int) := by omega
          have g4' : (q : Int) < (K : Int) := by omega
          have g5' : ((j + 1 : Nat) : Int) - 1 = (j : Int) := by omega
          have g6' : (0 : Int) ≤ (j : Int) := by omega
          have g7' : (j : Int) < (m : Int) := by omega
          have hlt1 : u < v → Hid (decide (dv 4294967296 d m ≤ up g K s) = false) := fun h => by
            show _ = _
            rw [decide_eq_false_iff_not, hup.out]
            have := dv_lt (B := 4294967296) (f := fun t => g (s + t)) (g := d) (by omega) HGS.out HD.out (k := j) (by omega) (fun i h1 h2 => k2.out i (by omega) h2) (by show g (s + j) < d j; rw [← HU.out, ← HV.out]; exact h)
            omega
          have hgt1 : v < u → Hid (decide (dv 4294967296 d m ≤ up g K s) = true) := fun h => by
            show _ = _
            rw [decide_eq_true_eq, hup.out]
            have := dv_lt (B := 4294967296) (f := d) (g := fun t => g (s + t)) (by omega) HD.out HGS.out (k := j) (by omega) (fun i h1 h2 => (k2.out i (by omega) h2).symm) (by show d j < g (s + j); rw [← HU.out, ← HV.out]; exact h)
            omega
          have HL := Lib.hid hlt1
          have HGT := Lib.hid hgt1
          clear hu hv hq hlt1 hgt1
          rw [g5']
          rcases Int.lt_trichotomy u v with h | h | h
          · have e := HL.out h
            have hne : (u != v) = true := by rw [bne_iff_ne]; omega
            have hdec : decide (v < u) = false := by rw [decide_eq_false_iff_not]; omega
            go_wp2_with fail
            go_region
            all_goals
              go_wp2_with fail
              go_region
              all_goals
                clear g2' hq1
                go_wp2_with fail
                go_ret
                exact ⟨ret_bool (by rw [e.out]), hb.drew.drew⟩
          · subst h
            go_wp2_with fail
            go_region
            all_goals
              clear g2' hq1
              go_wp2_with fail
              go_roundw
              case rel =>
                refine ⟨j, by omega, fun i h1 h2 => ?_, by go_num, hb.drew⟩
                by_cases e : i = j
                · subst e; rw [← HU.out, ← HV.out]
                · exact k2.out i (by omega) h2
              case measure => simp [intOf]
          · have e := HGT.out h
            have hne : (u != v) = true := by rw [bne_iff_ne]; omega
            go_wp2_with fail
            go_region
            all_goals
              go_wp2_with fail
              go_region
              all_goals
                clear g2' hq1
                go_wp2_with fail
                go_ret
                exact ⟨ret_bool (by rw [e.out]), hb.drew.drew⟩
    · obtain ⟨b1, o1, rfl, hc⟩ := H3.out (s + m) hlt
      rw [hg0] at hc
      have hlt' : (s : Int) + m < K := by omega
      clear hg0
      go_enter Try.func136, Try.ntmps136
      go_wp2_with fail
      clear hc hlt'
      go_loopw [8] (fun kv wr => ∃ k : Nat, k ≤ m ∧ Hid (∀ i, k ≤ i → i < m → g (s + i) = d i) ∧ kv = .int .i64 ((k : Int) - 1) ∧ Below w.heap.size w wr) (fun kv _ => (intOf kv + 1).toNat)
      case atStart => exact ⟨m, Nat.le_refl _, fun i h1 h2 => absurd h1 (by omega), rfl, Below.refl _ _⟩
      case round =>
        obtain ⟨k, k1, k2, rfl, hb⟩ := hrel
        rcases k with _ | j
        · have e : Hid (decide (dv 4294967296 d m ≤ up g K s) = true) := by
            show _ = _
            rw [decide_eq_true_eq, hup.out, dv_congr (f := fun t => g (s + t)) (g := d) fun i hi => k2.out i (Nat.zero_le _) hi]
            exact Int.le_refl _
          go_wp2_with fail
          go_ret
          exact ⟨ret_bool e.out.symm, hb⟩
        · obtain ⟨b3, o3, eb, hc⟩ := H3.out (s + j) (by omega)
          injection eb with eb; injection eb with eb1 eb2 _; subst eb1; subst eb2
          obtain ⟨b2, o2, rfl, hd⟩ := G3.out j (by omega)
          obtain ⟨u, hu⟩ : ∃ u, u = g (s + j) := ⟨_, rfl⟩
          obtain ⟨v, hv⟩ : ∃ v, v = d j := ⟨_, rfl⟩
          rw [← hu] at hc
          rw [← hv] at hd
          have hc := cell_stays hb hc
          have hd := cell_stays hb hd
          have HU := Lib.hid hu
          have HV := Lib.hid hv
          obtain ⟨q, hq⟩ : ∃ q, q = s + j := ⟨_, rfl⟩
          rw [← hq] at hc
          have hq1 : (s : Int) + j = (q : Int) := by omega
          have g1' : IntKind.i64.wrap ((q : Nat) : Int) = q := IntWalk.i64_in _ (by omega)
          have g2' : IntKind.i64.wrap ((s : Int) + j) = q := by rw [hq1]; exact g1'
          have g3' : (0 : Int) ≤ (q : Int) := by omega
          have g4' : (q : Int) < (K : Int) := by omega
          have g5' : ((j + 1 : Nat) : Int) - 1 = (j : Int) := by omega
          have g6' : (0 : Int) ≤ (j : Int) := by omega
          have g7' : (j : Int) < (m : Int) := by omega
          have hlt1 : u < v → Hid (decide (dv 4294967296 d m ≤ up g K s) = false) := fun h => by
            show _ = _
            rw [decide_eq_false_iff_not, hup.out]
            have := dv_lt (B := 4294967296) (f := fun t => g (s + t)) (g := d) (by omega) HGS.out HD.out (k := j) (by omega) (fun i h1 h2 => k2.out i (by omega) h2) (by show g (s + j) < d j; rw [← HU.out, ← HV.out]; exact h)
            omega
          have hgt1 : v < u → Hid (decide (dv 4294967296 d m ≤ up g K s) = true) := fun h => by
            show _ = _
            rw [decide_eq_true_eq, hup.out]
            have := dv_lt (B := 4294967296) (f := d) (g := fun t => g (s + t)) (by omega) HD.out HGS.out (k := j) (by omega) (fun i h1 h2 => (k2.out i (by omega) h2).symm) (by show d j < g (s + j); rw [← HU.out, ← HV.out]; exact h)
            omega
          have HL := Lib.hid hlt1
          have HGT := Lib.hid hgt1
          clear hu hv hq hlt1 hgt1
          rw [g5']
          rcases Int.lt_trichotomy u v with h | h | h
          · have e := HL.out h
            have hne : (u != v) = true := by rw [bne_iff_ne]; omega
            have hdec : decide (v < u) = false := by rw [decide_eq_false_iff_not]; omega
            go_wp2_with fail
            go_region
            all_goals
              go_wp2_with fail
              go_region
              all_goals
                clear g2' hq1
                go_wp2_with fail
                go_ret
                exact ⟨ret_bool (by rw [e.out]), hb.drew.drew⟩
          · subst h
            go_wp2_with fail
            go_region
            all_goals
              clear g2' hq1
              go_wp2_with fail
              go_roundw
              case rel =>
                refine ⟨j, by omega, fun i h1 h2 => ?_, by go_num, hb.drew⟩
                by_cases e : i = j
                · subst e; rw [← HU.out, ← HV.out]
                · exact k2.out i (by omega) h2
              case measure => simp [intOf]
          · have e := HGT.out h
            have hne : (u != v) = true := by rw [bne_iff_ne]; omega
            go_wp2_with fail
            go_region
            all_goals
              go_wp2_with fail
              go_region
              all_goals
                clear g2' hq1
                go_wp2_with fail
                go_ret
                exact ⟨ret_bool (by rw [e.out]), hb.drew.drew⟩

/-- q times the digits of d taken off from g0's place s on, as far as i places -/
structure TO (g0 d : Nat → Int) (q : Int) (s m K i : Nat) (g : Nat → Int) (c : Int) : Prop where
  bd : ∀ t, t < K → 0 ≤ g t ∧ g t < 4294967296
  cb : 0 ≤ c ∧ c ≤ 4294967296
  rest : ∀ t, s + i ≤ t → g t = g0 t
  val : dv 4294967296 g K - c * 4294967296 ^ (s + i) = dv 4294967296 g0 K - q * dv 4294967296 (zx d m) i * 4294967296 ^ s

theorem TO.step {g0 d : Nat → Int} {q : Int} {s m K i : Nat} {g : Nat → Int} {c : Int} (h : TO g0 d q s m K i g c) (hK : s + i < K) (hq : 0 ≤ q ∧ q < 4294967296) (hd : ∀ t, t < m → 0 ≤ d t ∧ d t < 4294967296) {v c' : Int}
    (hv : v - c' * 4294967296 = g (s + i) - (c + q * zx d m i)) (hvb : 0 ≤ v ∧ v < 4294967296) (hcb : 0 ≤ c' ∧ c' ≤ 4294967296) : TO g0 d q s m K (i + 1) (fun t => if t = s + i then v else g t) c' := by
  refine ⟨fun t ht => ?_, hcb, fun t ht => ?_, ?_⟩
  · split
    · exact hvb
    · exact h.bd t ht
  · rw [if_neg (by omega)]; exact h.rest t (by omega)
  · rw [dv_upd _ _ _ _ hK, show s + (i + 1) = s + i + 1 by omega, Int.pow_succ]
    have h1 := h.val
    simp only [dv]
    have hp : (4294967296 : Int) ^ (s + i) = 4294967296 ^ s * 4294967296 ^ i := Int.pow_add _ _ _
    rw [hp] at h1 ⊢
    grind

theorem TO.stop {g0 d : Nat → Int} {q : Int} {s m K i : Nat} {g : Nat → Int} {c : Int} (h : TO g0 d q s m K i g c) (hsm : s + m ≤ K) (hle : q * dv 4294967296 d m * 4294967296 ^ s ≤ dv 4294967296 g0 K)
    (hi : (m ≤ i ∧ c = 0) ∨ s + i = K) : dv 4294967296 g K = dv 4294967296 g0 K - q * dv 4294967296 d m * 4294967296 ^ s := by
  have hv := h.val
  have hmi : m ≤ i := by omega
  rw [zx_dv hmi] at hv
  rcases hi with ⟨_, rfl⟩ | e
  · omega
  · have hb := dv_bd (by omega) h.bd
    rw [e] at hv
    have hp := pow_pos' (show (0 : Int) < 4294967296 by omega) K
    have hc := h.cb
    rcases (by omega : c = 0 ∨ 1 ≤ c) with r | r
    · rw [r] at hv; omega
    · exfalso
      have : 1 * (4294967296 : Int) ^ K ≤ c * 4294967296 ^ K := Int.mul_le_mul_of_nonneg_right r (by omega)
      omega

theorem to_mul {q x c : Int} (hq : 0 ≤ q ∧ q < 4294967296) (hx : 0 ≤ x ∧ x < 4294967296) (hc : 0 ≤ c ∧ c ≤ 4294967296) :
    0 ≤ q * x ∧ q * x ≤ 18446744065119617025 ∧ 0 ≤ c + q * x ∧ c + q * x ≤ 18446744069414584321 ∧ 0 ≤ (c + q * x) / 4294967296 ∧ (c + q * x) / 4294967296 ≤ 4294967295 ∧ 0 ≤ (c + q * x) % 4294967296 ∧ (c + q * x) % 4294967296 < 4294967296 := by
  have h3 : 0 ≤ q * x := Int.mul_nonneg hq.1 hx.1
  have h4 : q * x ≤ 4294967295 * 4294967295 := Int.mul_le_mul (by omega) (by omega) hx.1 (by omega)
  omega

set_option maxHeartbeats 2000000 in
set_option maxRecDepth 100000 in
theorem takeOff_any (rb K m s cap : Nat) (g0 d : Nat → Int) (q : Int) (y : Value) (w : World) (hK : K ≤ 1099511627777) (hs : s + m ≤ K) (hq : 0 ≤ q ∧ q < 4294967296) (hr : RowAt .u64 w rb 0 K g0)
    (hy : RdA .u64 w y m d) (hoff : y.ownBlock ≠ some rb) (hg : ∀ t, t < K → 0 ≤ g0 t ∧ g0 t < 4294967296) (hd : ∀ t, t < m → 0 ≤ d t ∧ d t < 4294967296) (hle : q * dv 4294967296 d m * 4294967296 ^ s ≤ dv 4294967296 g0 K) :
    Calls Try.prog 137 #[.slice (some ⟨rb, 0, none⟩) K cap, y, .int .u64 q, .int .i64 s] w fun e w' => ∃ g, e = .returned (.tuple #[]) ∧ RowAt .u64 w' rb 0 K g ∧ (∀ t, t < K → 0 ≤ g t ∧ g t < 4294967296) ∧
      dv 4294967296 g K = dv 4294967296 g0 K - q * dv 4294967296 d m * 4294967296 ^ s ∧ w.grownBy w' (some rb) := by
  obtain ⟨b, cap', rfl, g1, g2, g3⟩ := wd_get hy
  have hne : ∀ b1 o1, b = some ⟨b1, o1, none⟩ → b1 ≠ rb := fun b1 o1 e h => hoff (by rw [e, h]; rfl)
  have G3 := Lib.hid g3
  have HD := Lib.hid hd
  have HNE := Lib.hid hne
  have HLE := Lib.hid hle
  obtain ⟨q0, q1⟩ := hq
  have h0 : TO g0 d q s m K 0 g0 0 := ⟨hg, by omega, fun _ _ => rfl, by simp [dv]⟩
  have H0 := Lib.hid h0
  have HR := Lib.hid hr
  clear g3 hy hoff hg hd hle hne h0 hr
  go_enter Try.func137, Try.ntmps137
  go_wp2_with fail
  go_loopw [8, 9] (fun cv iv wr => ∃ (i : Nat) (g : Nat → Int) (c : Int), s + i ≤ K ∧ iv = .int .i64 i ∧ cv = .int .u64 c ∧ TO g0 d q s m K i g c ∧ RowAt .u64 wr rb 0 K g ∧ w.grownBy wr (some rb)) (fun _ iv _ => K - (intOf iv).toNat)
  case atStart => exact ⟨0, g0, 0, by omega, rfl, rfl, H0.out, HR.out, gb_refl _ _⟩
  case round =>
    clear HR H0
    obtain ⟨i, g, c, i1, rfl, rfl, hto, hrow, hgr⟩ := hrel
    obtain ⟨c0, c1⟩ := hto.cb
    have HTO := Lib.hid hto
    have HROW := Lib.hid hrow
    clear hto hrow
    by_cases hiK : s + i < K
    · obtain ⟨t, ht⟩ : ∃ t, t = s + i := ⟨_, rfl⟩
      have hsi : (s : Int) + i = (t : Int) := by omega
      have htK : t < K := by omega
      obtain ⟨u0, u1⟩ := HTO.out.bd t htK
      obtain ⟨u, hu⟩ : ∃ u, u = g t := ⟨_, rfl⟩
      obtain ⟨d1, d2⟩ := HROW.out.get0 (i := t) htK hu.symm
      rw [← hu] at u0 u1
      have hstep := fun (x v c' : Int) (hx : zx d m i = x) (hv : v - c' * 4294967296 = u - (c + q * x)) (hvb : 0 ≤ v ∧ v < 4294967296) (hcb : 0 ≤ c' ∧ c' ≤ 4294967296) =>
        HTO.out.step (i := i) (v := v) (c' := c') hiK ⟨q0, q1⟩ HD.out (by rw [hx, ← ht, ← hu]; exact hv) hvb hcb
      rw [← ht] at hstep
      have HST := Lib.hid hstep
      have HT := Lib.hid ht
      clear hstep ht hu hiK
      by_cases him : i < m
      · obtain ⟨b2, o2, hb2, hd⟩ := G3.out i him
        have hnb := HNE.out b2 o2 hb2
        subst hb2
        have hd := hgr.cell hd (by simpa using hnb)
        obtain ⟨x0, x1⟩ := HD.out i him
        have hzx : Hid (zx d m i = d i) := if_pos him
        obtain ⟨x, hx⟩ : ∃ x, x = d i := ⟨_, rfl⟩
        rw [← hx] at hd x0 x1 hzx
        obtain ⟨m0, m1, m2, m3, m4, m5, m6, m7⟩ := to_mul ⟨q0, q1⟩ ⟨x0, x1⟩ ⟨c0, c1⟩
        clear hx
        obtain ⟨lo, hlo⟩ : ∃ lo, lo = (c + q * x) % 4294967296 := ⟨_, rfl⟩
        obtain ⟨hi, hhi⟩ : ∃ hi, hi = (c + q * x) / 4294967296 := ⟨_, rfl⟩
        have hlh : c + q * x = lo + 4294967296 * hi := by omega
        by_cases hlt : u < lo
        · have hn := HST.out x (u + 4294967296 - lo) (hi + 1) hzx.out (by omega) (by omega) (by omega)
          have hr2 := HROW.out.set0 htK (u + 4294967296 - lo)
          have hg2 := gb_trans hgr (gb_set wr ⟨rb, t, none⟩ (.int .u64 (u + 4294967296 - lo)))
          have HN := Lib.hid (And.intro hn (And.intro hr2 hg2))
          have HLH := Lib.hid hlh
          clear hn hr2 hg2 hgr hlh
          rw [← hlo] at m6 m7
          rw [← hhi] at m4 m5
          have HLO := Lib.hid hlo.symm
          have HHI := Lib.hid hhi.symm
          clear hlo hhi
          have hlo' := HLO.out
          have hhi' := HHI.out
          go_wp2_with fail
          go_roundw
          case rel => exact ⟨i + 1, _, _, by have := HT.out; omega, by go_num, rfl, by first | exact HN.out.1 | (rw [HHI.out]; exact HN.out.1), HN.out.2.1, HN.out.2.2⟩
          case measure => simp [intOf]; omega
        · have hn := HST.out x (u - lo) (hi) hzx.out (by omega) (by omega) (by omega)
          have hr2 := HROW.out.set0 htK (u - lo)
          have hg2 := gb_trans hgr (gb_set wr ⟨rb, t, none⟩ (.int .u64 (u - lo)))
          have HN := Lib.hid (And.intro hn (And.intro hr2 hg2))
          have HLH := Lib.hid hlh
          clear hn hr2 hg2 hgr hlh
          rw [← hlo] at m6 m7
          rw [← hhi] at m4 m5
          have HLO := Lib.hid hlo.symm
          have HHI := Lib.hid hhi.symm
          clear hlo hhi
          have hlo' := HLO.out
          have hhi' := HHI.out
          go_wp2_with fail
          go_roundw
          case rel => exact ⟨i + 1, _, _, by have := HT.out; omega, by go_num, rfl, by first | exact HN.out.1 | (rw [HHI.out]; exact HN.out.1), HN.out.2.1, HN.out.2.2⟩
          case measure => simp [intOf]; omega
      · have hzx : Hid (zx d m i = 0) := if_neg him
        by_cases hcp : 0 < c
        · obtain ⟨lo, hlo⟩ : ∃ lo, lo = c % 4294967296 := ⟨_, rfl⟩
          obtain ⟨hi, hhi⟩ : ∃ hi, hi = c / 4294967296 := ⟨_, rfl⟩
          have hlh : c + q * 0 = lo + 4294967296 * hi := by omega
          have m6 : 0 ≤ c % 4294967296 := by omega
          have m7 : c % 4294967296 < 4294967296 := by omega
          have m4 : 0 ≤ c / 4294967296 := by omega
          have m5 : c / 4294967296 ≤ 1 := by omega
          by_cases hlt : u < lo
          · have hn := HST.out 0 (u + 4294967296 - lo) (hi + 1) hzx.out (by omega) (by omega) (by omega)
            have hr2 := HROW.out.set0 htK (u + 4294967296 - lo)
            have hg2 := gb_trans hgr (gb_set wr ⟨rb, t, none⟩ (.int .u64 (u + 4294967296 - lo)))
            have HN := Lib.hid (And.intro hn (And.intro hr2 hg2))
            have HLH := Lib.hid hlh
            clear hn hr2 hg2 hgr hlh
            rw [← hlo] at m6 m7
            rw [← hhi] at m4 m5
            have HLO := Lib.hid hlo.symm
            have HHI := Lib.hid hhi.symm
            clear hlo hhi
            have hlo' := HLO.out
            have hhi' := HHI.out
            go_wp2_with fail
            go_roundw
            case rel => exact ⟨i + 1, _, _, by have := HT.out; omega, by go_num, rfl, by first | exact HN.out.1 | (rw [HHI.out]; exact HN.out.1), HN.out.2.1, HN.out.2.2⟩
            case measure => simp [intOf]; omega
          · have hn := HST.out 0 (u - lo) (hi) hzx.out (by omega) (by omega) (by omega)
            have hr2 := HROW.out.set0 htK (u - lo)
            have hg2 := gb_trans hgr (gb_set wr ⟨rb, t, none⟩ (.int .u64 (u - lo)))
            have HN := Lib.hid (And.intro hn (And.intro hr2 hg2))
            have HLH := Lib.hid hlh
            clear hn hr2 hg2 hgr hlh
            rw [← hlo] at m6 m7
            rw [← hhi] at m4 m5
            have HLO := Lib.hid hlo.symm
            have HHI := Lib.hid hhi.symm
            clear hlo hhi
            have hlo' := HLO.out
            have hhi' := HHI.out
            go_wp2_with fail
            go_roundw
            case rel => exact ⟨i + 1, _, _, by have := HT.out; omega, by go_num, rfl, by first | exact HN.out.1 | (rw [HHI.out]; exact HN.out.1), HN.out.2.1, HN.out.2.2⟩
            case measure => simp [intOf]; omega
        · have hc0 : c = 0 := by omega
          have hfin := HTO.out.stop hs HLE.out (Or.inl ⟨by omega, hc0⟩)
          have HFIN := Lib.hid hfin
          subst hc0
          clear hfin
          go_wp2_with fail
          go_end0
          exact ⟨rfl, g, HROW.out, HTO.out.bd, HFIN.out, hgr⟩
    · have hfin := HTO.out.stop hs HLE.out (Or.inr (by omega))
      have HFIN := Lib.hid hfin
      clear hfin
      have hsi : ¬ (s : Int) + i < K := by omega
      go_wp2_with fail
      go_end0
      exact ⟨rfl, g, HROW.out, HTO.out.bd, HFIN.out, hgr⟩

end Go.Proofs.Ytdlpemmoobbgnaa

namespace Go.Proofs.Ytdlpemmoobbgnaa
open Go.RowKit

/-- at the head of a round of the division: the quotient's places before c are still 0 -/
structure DH (A D : Int) (K S c : Nat) (g qf : Nat → Int) : Prop where
  gb : ∀ t, t < K → 0 ≤ g t ∧ g t < 4294967296
  qb : ∀ t, 0 ≤ qf t ∧ qf t < 4294967296
  low : ∀ t, t < c → qf t = 0
  val : dv 4294967296 g K + dv 4294967296 qf S * D = A
  cap : dv 4294967296 g K < D * 4294967296 ^ c
/-- inside the round -/
structure DI (A D : Int) (K S s : Nat) (g qf : Nat → Int) : Prop where
  gb : ∀ t, t < K → 0 ≤ g t ∧ g t < 4294967296
  qb : ∀ t, 0 ≤ qf t ∧ qf t < 4294967296
  low : ∀ t, t < s → qf t = 0
  val : dv 4294967296 g K + dv 4294967296 qf S * D = A
  cap : dv 4294967296 g K + qf s * D * 4294967296 ^ s < D * 4294967296 ^ (s + 1)

theorem DH.enter {A D : Int} {K S s : Nat} {g qf : Nat → Int} (h : DH A D K S (s + 1) g qf) : DI A D K S s g qf :=
  ⟨h.gb, h.qb, fun t ht => h.low t (by omega), h.val, by rw [h.low s (by omega)]; have := h.cap; simpa using this⟩
theorem DI.leave {A D : Int} {K S s : Nat} {g qf : Nat → Int} (h : DI A D K S s g qf) (hc : dv 4294967296 g K < D * 4294967296 ^ s) : DH A D K S s g qf := ⟨h.gb, h.qb, h.low, h.val, hc⟩

theorem DI.take {A D : Int} {K S s : Nat} {g qf g' : Nat → Int} (h : DI A D K S s g qf) {n : Int} (hD : 0 < D) (hs : s < S) (hn : 0 ≤ n) (hg' : ∀ t, t < K → 0 ≤ g' t ∧ g' t < 4294967296)
    (hv : dv 4294967296 g' K = dv 4294967296 g K - n * D * 4294967296 ^ s) : 0 ≤ qf s + n ∧ qf s + n < 4294967296 ∧ DI A D K S s g' (fun t => if t = s then qf s + n else qf t) := by
  have hp := pow_pos' (show (0 : Int) < 4294967296 by omega) s
  have h0 := (dv_bd (by omega) hg').1
  have hc := h.cap
  have hq := h.qb s
  have hlt : qf s + n < 4294967296 := by
    refine Int.not_le.1 fun hge => ?_
    have h1 : 4294967296 * (D * 4294967296 ^ s) ≤ (qf s + n) * (D * 4294967296 ^ s) := Int.mul_le_mul_of_nonneg_right hge (Int.mul_nonneg (by omega) (by omega))
    rw [Int.pow_succ] at hc
    have e1 : (qf s + n) * (D * 4294967296 ^ s) = qf s * D * 4294967296 ^ s + n * D * 4294967296 ^ s := by grind
    have e2 : 4294967296 * (D * 4294967296 ^ s) = D * (4294967296 ^ s * 4294967296) := by grind
    omega
  refine ⟨by omega, hlt, hg', fun t => ?_, fun t ht => ?_, ?_, ?_⟩
  · split
    · omega
    · exact h.qb t
  · rw [if_neg (by omega)]; exact h.low t ht
  · rw [dv_upd _ _ _ _ hs, hv]
    have := h.val
    grind
  · rw [if_pos rfl, hv]
    have e1 : (qf s + n) * D * 4294967296 ^ s = qf s * D * 4294967296 ^ s + n * D * 4294967296 ^ s := by grind
    omega

theorem DI.high {A D : Int} {K S s m : Nat} {g qf : Nat → Int} (h : DI A D K S s g qf) (hD0 : 0 < D) (hDm : D < 4294967296 ^ m) (t : Nat) (h1 : s + m < t) (h2 : t < K) : g t = 0 := by
  have hb := h.gb t h2
  refine Classical.byContradiction fun hne => ?_
  have hlow := (dv_bd (B := 4294967296) (by omega) (n := t) (fun i hi => h.gb i (by omega))).1
  have hup := up_split g (show t ≤ K by omega)
  have hu1 : g t ≤ up g K t := by
    unfold up
    obtain ⟨e, he⟩ : ∃ e, K - t = e + 1 := ⟨K - t - 1, by omega⟩
    rw [he, show e + 1 = 1 + e by omega, dv_split]
    have := (dv_bd (B := 4294967296) (f := fun i => g (t + (1 + i))) (by omega) (n := e) (fun i hi => h.gb _ (by omega))).1
    simp only [dv, Nat.add_zero, Int.pow_zero, Int.mul_one, Int.zero_add, Int.pow_succ, Int.one_mul]
    omega
  have hpt := pow_pos' (show (0 : Int) < 4294967296 by omega) t
  have h3 : 4294967296 ^ t * 1 ≤ 4294967296 ^ t * up g K t := Int.mul_le_mul_of_nonneg_left (by omega) (by omega)
  have hcap := h.cap
  have hps := pow_pos' (show (0 : Int) < 4294967296 by omega) (s + 1)
  have hq : 0 ≤ qf s * D * 4294967296 ^ s := Int.mul_nonneg (Int.mul_nonneg (h.qb s).1 (by omega)) (by have := pow_pos' (show (0 : Int) < 4294967296 by omega) s; omega)
  have h4 : D * 4294967296 ^ (s + 1) ≤ 4294967296 ^ m * 4294967296 ^ (s + 1) := Int.mul_le_mul_of_nonneg_right (by omega) (by omega)
  rw [← Int.pow_add] at h4
  have h5 := pow_le' (B := 4294967296) (by omega) (show m + (s + 1) ≤ t by omega)
  omega

theorem dec_of {D n x y : Int} {s : Nat} (hD : 0 < D) (hn : 1 ≤ n) (h : x = y - n * D * 4294967296 ^ s) : x < y := by
  have hp := pow_pos' (show (0 : Int) < 4294967296 by omega) s
  have h1 : 0 < n * D := Int.mul_pos (by omega) hD
  have h2 : 0 < n * D * 4294967296 ^ s := Int.mul_pos h1 hp
  omega

/-- what n is at most -/
theorem DI.digit {A D : Int} {K S s m : Nat} {g qf d : Nat → Int} (h : DI A D K S s g qf) (hm : 0 < m) (hd : ∀ t, t < m → 0 ≤ d t ∧ d t < 4294967296) (hDv : dv 4294967296 d m = D) (hD : 0 < D) (hK : s + m < K) :
    0 ≤ (g (s + m - 1) + g (s + m) * 4294967296) / (d (m - 1) + 1) ∧ (g (s + m - 1) + g (s + m) * 4294967296) / (d (m - 1) + 1) * D * 4294967296 ^ s ≤ dv 4294967296 g K ∧
      (g (s + m - 1) + g (s + m) * 4294967296) / (d (m - 1) + 1) < 4294967296 := by
  have hd1 := hd (m - 1) (by omega)
  have g1 := h.gb (s + m - 1) (by omega)
  have g2 := h.gb (s + m) hK
  obtain ⟨T, hT⟩ : ∃ T, T = g (s + m - 1) + g (s + m) * 4294967296 := ⟨_, rfl⟩
  rw [← hT]
  obtain ⟨n, hn⟩ : ∃ n, n = T / (d (m - 1) + 1) := ⟨_, rfl⟩
  rw [← hn]
  have hn0 : 0 ≤ n := by rw [hn]; exact Int.ediv_nonneg (by omega) (by omega)
  have hnT : n * (d (m - 1) + 1) ≤ T := by rw [hn]; exact Int.ediv_mul_le _ (by omega)
  have hDm : D < 4294967296 ^ m := by rw [← hDv]; exact (dv_bd (by omega) hd).2
  -- D is less than (its highest digit + 1) times a power
  have hDh : D ≤ (d (m - 1) + 1) * 4294967296 ^ (m - 1) := by
    rw [← hDv]
    obtain ⟨k, rfl⟩ : ∃ k, m = k + 1 := ⟨m - 1, by omega⟩
    simp only [dv, Nat.add_sub_cancel]
    have := (dv_bd (B := 4294967296) (by omega) (n := k) (fun i hi => hd i (by omega))).2
    rw [Int.add_mul]; omega
  -- the two highest digits of what is left
  have hup : up g K (s + m - 1) = T := by
    have h1 := up_top (g := g) (K := K) (s := s + m - 1) (m := 1) (by omega) (fun t h1 h2 => h.high hD hDm t (by omega) h2)
    rw [h1, hT]
    simp only [dv, Nat.add_zero, Int.pow_zero, Int.mul_one, Int.zero_add, Int.pow_succ, Int.one_mul]
    rw [show s + m - 1 + 1 = s + m by omega]
  have hlow := (dv_bd (B := 4294967296) (by omega) (n := s + m - 1) (fun i hi => h.gb i (by omega))).1
  have hsp := up_split g (show s + m - 1 ≤ K by omega)
  rw [hup] at hsp
  have hp1 := pow_pos' (show (0 : Int) < 4294967296 by omega) (s + m - 1)
  have hps := pow_pos' (show (0 : Int) < 4294967296 by omega) s
  have hpm := pow_pos' (show (0 : Int) < 4294967296 by omega) (m - 1)
  have hle : n * D * 4294967296 ^ s ≤ dv 4294967296 g K := by
    have a1 : n * D ≤ n * ((d (m - 1) + 1) * 4294967296 ^ (m - 1)) := Int.mul_le_mul_of_nonneg_left hDh hn0
    have a2 : n * D * 4294967296 ^ s ≤ n * ((d (m - 1) + 1) * 4294967296 ^ (m - 1)) * 4294967296 ^ s := Int.mul_le_mul_of_nonneg_right a1 (by omega)
    have e1 : n * ((d (m - 1) + 1) * 4294967296 ^ (m - 1)) * 4294967296 ^ s = n * (d (m - 1) + 1) * 4294967296 ^ (s + m - 1) := by
      rw [show s + m - 1 = (m - 1) + s by omega, Int.pow_add]; grind
    have a3 : n * (d (m - 1) + 1) * 4294967296 ^ (s + m - 1) ≤ T * 4294967296 ^ (s + m - 1) := Int.mul_le_mul_of_nonneg_right hnT (by omega)
    rw [Int.mul_comm (4294967296 ^ (s + m - 1))] at hsp
    omega
  refine ⟨hn0, hle, Int.not_le.1 fun hge => ?_⟩
  have hcap := h.cap
  have hq : 0 ≤ qf s * D * 4294967296 ^ s := Int.mul_nonneg (Int.mul_nonneg (h.qb s).1 (by omega)) (by omega)
  have h1 : 4294967296 * (D * 4294967296 ^ s) ≤ n * (D * 4294967296 ^ s) := Int.mul_le_mul_of_nonneg_right hge (Int.mul_nonneg (by omega) (by omega))
  rw [Int.pow_succ] at hcap
  have e1 : n * (D * 4294967296 ^ s) = n * D * 4294967296 ^ s := by grind
  have e2 : 4294967296 * (D * 4294967296 ^ s) = D * (4294967296 ^ s * 4294967296) := by grind
  omega

/-- the memory of the division: the rest in rb, the quotient in qb, the divisor beside them -/
structure DM (w wr : World) (rb qb K S m : Nat) (g qf d : Nat → Int) (y : Value) : Prop where
  r : RowAt .u64 wr rb 0 K g
  q : RowAt .u64 wr qb 0 S qf
  d : RdA .u64 wr y m d
  below : Below w.heap.size w wr

theorem RdA.grown {k : IntKind} {w w' : World} {v : Value} {n : Nat} {f : Nat → Int} (h : RdA k w v n f) {r : Nat} (hg : w.grownBy w' (some r)) (hr : v.ownBlock ≠ some r) : RdA k w' v n f := by
  obtain ⟨a, cap, rfl, h1, h2, h3⟩ := h
  refine ⟨a, cap, rfl, h1, h2, fun hn => ?_⟩
  obtain ⟨b, o, rfl, h4⟩ := h3 hn
  refine ⟨b, o, rfl, fun i hi => hg.cell (h4 i hi) ?_⟩
  intro e; exact hr (by simpa [Value.ownBlock] using e)

theorem DM.put {w wr w' : World} {rb qb K S m : Nat} {g qf d g' : Nat → Int} {y : Value} (h : DM w wr rb qb K S m g qf d y) (hne : qb ≠ rb) (hy : y.ownBlock ≠ some rb) (hrb : w.heap.size ≤ rb) (hr : RowAt .u64 w' rb 0 K g') (hg : wr.grownBy w' (some rb)) :
    DM w w' rb qb K S m g' qf d y :=
  ⟨hr, h.q.gb hg (by simpa using hne), h.d.grown hg hy, h.below.grown hg h.below.size fun k hk => by injection hk with hk; omega⟩
theorem DM.putq {w wr : World} {rb qb K S m : Nat} {g qf d : Nat → Int} {y : Value} (h : DM w wr rb qb K S m g qf d y) (hne : qb ≠ rb) (hy : y.ownBlock ≠ some qb) (hqb : w.heap.size ≤ qb) {s : Nat} (hs : s < S) (v : Int) :
    DM w (wr.setCell ⟨qb, s, none⟩ (.int .u64 v)) rb qb K S m g (fun t => if t = s then v else qf t) d y :=
  ⟨h.r.other (by simpa using hne) _, h.q.set0 hs v, h.d.grown (gb_set wr ⟨qb, s, none⟩ _) hy, h.below.setCell (p := ⟨qb, s, none⟩) hqb _⟩

theorem DM.same {w wr w' : World} {rb qb K S m : Nat} {g qf d : Nat → Int} {y : Value} (h : DM w wr rb qb K S m g qf d y) (hb : Below wr.heap.size wr w') : DM w w' rb qb K S m g qf d y :=
  ⟨h.r.below hb, h.q.below hb, h.d.below hb, h.below.trans (hb.mono h.below.size)⟩

/-- twice the factor -/
theorem fac_step {bt F : Int} {k : Nat} (hb : 1 ≤ bt) (hF : F = 2 ^ k) (hk : k ≤ 31) (hlt : bt * F < 2147483648) : k + 1 ≤ 31 ∧ (bt + 1) * (2 * F) ≤ 4294967296 ∧ 2 * F = 2 ^ (k + 1) := by
  have hp := pow_pos' (show (0 : Int) < 2 by omega) k
  have e : F * 2 ^ (31 - k) = 2147483648 := by rw [hF, ← Int.pow_add, show k + (31 - k) = 31 by omega]; rfl
  rw [← hF] at hp
  have h1 : bt < 2 ^ (31 - k) := by
    refine Int.not_le.1 fun hge => ?_
    have := Int.mul_le_mul_of_nonneg_left hge (show 0 ≤ F by omega)
    rw [Int.mul_comm F bt] at this; omega
  have hk' : k ≤ 30 := by
    refine Nat.le_of_not_lt fun hgt => ?_
    have : k = 31 := by omega
    subst this
    simp at h1; omega
  refine ⟨by omega, ?_, by rw [hF, Int.pow_succ]; omega⟩
  have h2 : F * (bt + 1) ≤ F * 2 ^ (31 - k) := Int.mul_le_mul_of_nonneg_left (by omega) (by omega)
  have : (bt + 1) * (2 * F) = 2 * (F * (bt + 1)) := by grind
  omega

/-- the end: the rest is divided by the factor, from the top -/
structure DF (g : Nat → Int) (F : Int) (K c : Nat) (h : Nat → Int) (rho : Int) : Prop where
  hb : ∀ t, t < K → 0 ≤ h t ∧ h t < 4294967296
  rb : 0 ≤ rho ∧ rho < F
  low : ∀ t, t < c → h t = g t
  val : rho + F * up h K c = up g K c

theorem up_step (g : Nat → Int) {K c : Nat} (hc : c < K) : up g K c = g c + 4294967296 * up g K (c + 1) := by
  unfold up
  obtain ⟨e, he⟩ : ∃ e, K - c = 1 + e := ⟨K - c - 1, by omega⟩
  rw [he, dv_split, show K - (c + 1) = e by omega]
  simp only [dv, Nat.add_zero, Int.pow_zero, Int.mul_one, Int.zero_add, Int.pow_succ, Int.one_mul]
  congr 2
  exact dv_congr fun i _ => by rw [show c + (1 + i) = c + 1 + i by omega]

theorem DF.step {g h : Nat → Int} {F rho : Int} {K c : Nat} (hd : DF g F K (c + 1) h rho) (hc : c < K) (hg : ∀ t, t < K → 0 ≤ g t ∧ g t < 4294967296) (hF : 0 < F ∧ F ≤ 4294967296) :
    0 ≤ rho * 4294967296 + g c ∧ rho * 4294967296 + g c ≤ 18446744073709551615 ∧ 0 ≤ (rho * 4294967296 + g c) / F ∧ (rho * 4294967296 + g c) / F < 4294967296 ∧
      DF g F K c (fun t => if t = c then (rho * 4294967296 + g c) / F else h t) ((rho * 4294967296 + g c) % F) := by
  have hgc := hg c hc
  have hr := hd.rb
  have h0 : 0 ≤ (rho * 4294967296 + g c) / F := Int.ediv_nonneg (by omega) (by omega)
  have h1 : (rho * 4294967296 + g c) / F < 4294967296 := by
    refine Int.ediv_lt_of_lt_mul (by omega) ?_
    have : (rho + 1) * 4294967296 ≤ F * 4294967296 := Int.mul_le_mul_of_nonneg_right (by omega) (by omega)
    omega
  refine ⟨by omega, by omega, h0, h1, fun t ht => ?_, ⟨Int.emod_nonneg _ (by omega), Int.emod_lt_of_pos _ (by omega)⟩, fun t ht => ?_, ?_⟩
  · split
    · exact ⟨h0, h1⟩
    · exact hd.hb t ht
  · rw [if_neg (by omega)]; exact hd.low t (by omega)
  · rw [up_step _ hc, up_step g hc, if_pos rfl]
    have e : up (fun t => if t = c then (rho * 4294967296 + g c) / F else h t) K (c + 1) = up h K (c + 1) := by
      unfold up; exact dv_congr fun i _ => if_neg (by omega)
    rw [e, ← hd.val]
    have := Int.emod_add_mul_ediv (rho * 4294967296 + g c) F
    grind

theorem DF.start {g : Nat → Int} {F : Int} {K : Nat} (hg : ∀ t, t < K → 0 ≤ g t ∧ g t < 4294967296) (hF : 0 < F) : DF g F K K g 0 := ⟨hg, by omega, fun _ _ => rfl, by unfold up; rw [Nat.sub_self]; simp [dv]⟩

/-- quotient and rest -/
theorem div_end {A D F : Int} {K S : Nat} {g qf h : Nat → Int} {rho : Int} (hA : 0 ≤ A) (hD : 0 < D) (hF : 0 < F) (hh : DH (A * F) (D * F) K S 0 g qf) (hf : DF g F K 0 h rho) :
    dv 4294967296 qf S = A / D ∧ dv 4294967296 h K = A % D := by
  have hv := hh.val
  have hc := hh.cap
  have hfv := hf.val
  have hr := hf.rb
  have hu : ∀ x : Nat → Int, up x K 0 = dv 4294967296 x K := fun x => by unfold up; rw [Nat.sub_zero]; exact dv_congr fun i _ => by rw [Nat.zero_add]
  rw [hu, hu] at hfv
  obtain ⟨Q, hQ⟩ : ∃ Q, Q = dv 4294967296 qf S := ⟨_, rfl⟩
  obtain ⟨R, hR⟩ : ∃ R, R = dv 4294967296 h K := ⟨_, rfl⟩
  rw [← hQ] at hv ⊢
  rw [← hR] at hfv ⊢
  have hR0 : 0 ≤ R := by rw [hR]; exact (dv_bd (by omega) hf.hb).1
  rw [← hfv] at hv hc
  rw [Int.pow_zero, Int.mul_one] at hc
  -- rho is a multiple of F
  have e1 : rho = F * (A - Q * D - R) := by grind
  have e2 : A - Q * D - R = 0 := by
    rcases (by omega : A - Q * D - R = 0 ∨ 1 ≤ A - Q * D - R ∨ A - Q * D - R ≤ -1) with c | c | c
    · exact c
    · have := Int.mul_le_mul_of_nonneg_left c (show 0 ≤ F by omega); omega
    · have := Int.mul_le_mul_of_nonneg_left c (show 0 ≤ F by omega); omega
  have hlt : R < D := by
    refine Int.not_le.1 fun hge => ?_
    have := Int.mul_le_mul_of_nonneg_left hge (show 0 ≤ F by omega)
    rw [Int.mul_comm D F] at hc; omega
  have he : A = R + D * Q := by grind
  constructor
  · rw [he, Int.add_mul_ediv_left _ _ (by omega), Int.ediv_eq_zero_of_lt hR0 hlt]; omega
  · rw [he, Int.add_mul_emod_self_left, Int.emod_eq_of_lt hR0 hlt]

end Go.Proofs.Ytdlpemmoobbgnaa

namespace Go.Proofs.Ytdlpemmoobbgnaa
open Go.RowKit

set_option maxHeartbeats 4000000 in
set_option maxRecDepth 100000 in
theorem divide_any (x y : Value) (na nb : Nat) (f d0 : Nat → Int) (A D : Int) (w : World) (hna : na ≤ 1099511627776) (hnb : nb ≤ 1099511627776) (hx : RdA .u64 w x na f) (hy : RdA .u64 w y nb d0) (hf : Dig 4294967296 na f A) (hd : Dig 4294967296 nb d0 D) (hD : 0 < D) :
    Calls Try.prog 132 #[x, y] w fun e w' => ∃ v1 v2 n1 n2 g1 g2, e = .returned (.tuple #[v1, v2]) ∧ RdA .u64 w' v1 n1 g1 ∧ Dig 4294967296 n1 g1 (A / D) ∧ RdA .u64 w' v2 n2 g2 ∧ Dig 4294967296 n2 g2 (A % D) ∧ Below w.heap.size w w' := by
  obtain ⟨a, cap, rfl, h1, h2, h3⟩ := wd_get hx
  obtain ⟨b, cap', rfl, g1, g2, g3⟩ := wd_get hy
  have hA0 := hf.nonneg (by omega)
  by_cases hlt : na < nb
  · have hAD := hf.lt_of_len (by omega) hd hlt
    have e1 : A / D = 0 := Int.ediv_eq_zero_of_lt hA0 hAD
    have e2 : A % D = A := Int.emod_eq_of_lt hA0 hAD
    rw [e1, e2]
    have HX := Lib.hid hx
    have HF := Lib.hid hf
    clear hx hy hf hd h3 g3 e1 e2
    go_enter Try.func132, Try.ntmps132
    go_wp2_with fail
    go_ret2
    exact ⟨.slice none 0 0, .slice a na cap, 0, na, fun _ => 0, f, rfl, ⟨none, 0, rfl, Nat.le_refl _, by omega, fun h => absurd h (by omega)⟩, ⟨fun i hi => absurd hi (by omega), fun h => absurd h (by omega), rfl⟩, HX.out, HF.out, Below.refl _ _⟩
  · have hnb0 : 0 < nb := by
      refine Nat.pos_of_ne_zero fun h => ?_
      have := (hd.zero_iff (by omega)).1 h; omega
    obtain ⟨b1, o1, hb1, hc1⟩ := g3 (nb - 1) (by omega)
    subst hb1
    obtain ⟨m1, hm1⟩ : ∃ m1, m1 = nb - 1 := ⟨_, rfl⟩
    rw [← hm1] at hc1
    obtain ⟨bt, hbt⟩ : ∃ bt, bt = d0 m1 := ⟨_, rfl⟩
    have hbb := hd.bd m1 (by omega)
    have htop := hd.top hnb0
    rw [← hm1] at htop
    rw [← hbt] at hc1 hbb htop
    have hm2 : (nb : Int) - 1 = (m1 : Int) := by omega
    have hm3 : m1 < nb := by omega
    obtain ⟨bb0, bb1⟩ := hbb
    have bt1 : 1 ≤ bt := by omega
    have HX := Lib.hid hx
    have HY := Lib.hid hy
    have HFD := Lib.hid hf
    have HDD := Lib.hid hd
    have HBT := Lib.hid hbt
    have HM1 := Lib.hid hm1
    clear hx hy hf hd h3 g3 hbt htop hm1
    go_enter Try.func132, Try.ntmps132
    go_wp2_with fail
    go_loop [6] (fun fv => ∃ (k : Nat) (F : Int), k ≤ 31 ∧ Hid (F = 2 ^ k) ∧ (1 : Int) ≤ F ∧ F ≤ 2147483648 ∧ Hid ((bt + 1) * F ≤ 4294967296) ∧ fv = .int .u64 F) (fun fv => (4294967296 - intOf fv).toNat)
    case atStart => exact ⟨0, 1, by omega, rfl, by omega, by omega, by show _ ≤ _; omega, rfl⟩
    case round =>
      obtain ⟨k, F, k1, hF, F1, F2, hbF, rfl⟩ := hrel
      have hprod : 0 ≤ bt * F ∧ bt * F ≤ 4294967296 := by
        have := hbF.out
        rw [Int.add_mul, Int.one_mul] at this
        exact ⟨Int.mul_nonneg (by omega) (by omega), by omega⟩
      obtain ⟨pr0, pr1⟩ := hprod
      by_cases hl : bt * F < 2147483648
      · obtain ⟨s1, s2, s3⟩ := fac_step bt1 hF.out k1 hl
        have hF4 : 2 * F ≤ 2147483648 := by
          rw [s3]
          have := pow_le' (B := 2) (by omega) s1
          exact Int.le_trans this (by decide)
        have S2 := Lib.hid s2
        have S3 := Lib.hid s3
        clear s2 s3
        go_wp2_with fail
        go_round
        case rel => exact ⟨k + 1, 2 * F, s1, S3.out, by omega, hF4, S2.out, rfl⟩
        case measure => simp [intOf]; omega
      · have hDF : D * F < 4294967296 ^ nb := by
          have h1 : D ≤ (bt + 1) * 4294967296 ^ m1 := by
            have hv := HDD.out.val
            have := dv_bd (B := 4294967296) (by omega) (n := m1) (fun i hi => HDD.out.bd i (by omega))
            rw [show nb = m1 + 1 by have := HM1.out; omega] at hv
            simp only [dv] at hv
            rw [← HBT.out] at hv
            rw [Int.add_mul]; omega
          have hlt' : D < (bt + 1) * 4294967296 ^ m1 := by
            have hv := HDD.out.val
            have := dv_bd (B := 4294967296) (by omega) (n := m1) (fun i hi => HDD.out.bd i (by omega))
            rw [show nb = m1 + 1 by have := HM1.out; omega] at hv
            simp only [dv] at hv
            rw [← HBT.out] at hv
            rw [Int.add_mul]; omega
          have h2 : D * F < (bt + 1) * 4294967296 ^ m1 * F := Int.mul_lt_mul_of_pos_right hlt' (by omega)
          have hp := pow_pos' (show (0 : Int) < 4294967296 by omega) m1
          have h3 : (bt + 1) * F * 4294967296 ^ m1 ≤ 4294967296 * 4294967296 ^ m1 := Int.mul_le_mul_of_nonneg_right hbF.out (by omega)
          rw [show nb = m1 + 1 by have := HM1.out; omega, Int.pow_succ]
          have e : (bt + 1) * 4294967296 ^ m1 * F = (bt + 1) * F * 4294967296 ^ m1 := by grind
          omega
        have HDF := Lib.hid hDF
        have hF5 : 0 ≤ F ∧ F < 4294967296 := by omega
        clear hDF
        go_wp2_with fail
        clear pr0 pr1 hc1
        refine (scaled_any _ na f F hF5 _ hna HFD.out.bd HX.out).mono ?_
        rintro e w1 ⟨rb, g, rfl, hrb, hrk, hrr, hgb, hgv, hb1⟩
        have HY := Lib.hid (HY.out.below hb1)
        have HRR := Lib.hid hrr
        have HRK := Lib.hid hrk
        rw [HFD.out.val] at hgv
        have HGV := Lib.hid hgv
        have HGB := Lib.hid hgb
        clear hrr hrk hgv hgb
        go_wp2_with fail
        refine (scaled_any _ nb d0 F hF5 _ hnb HDD.out.bd HY.out).mono ?_
        rintro e w2 ⟨db, d, rfl, hdb, hdk, hdr, hdbd, hdv, hb2⟩
        rw [HDD.out.val] at hdv
        have hDF1 : D ≤ D * F := by
          have := Int.mul_le_mul_of_nonneg_left F1 (show 0 ≤ D by omega); omega
        have hsz : sz d (nb + 1) = nb := by
          have hdg := dig_sz hdbd
          rw [hdv] at hdg
          have h1 := hdg.len (by omega) HDF.out
          have h2 := HDD.out.ge (by omega) hnb0
          have h3 := hdg.lt (by omega)
          refine Nat.le_antisymm h1 (Nat.le_of_not_lt fun hlt => ?_)
          have := pow_le' (B := 4294967296) (by omega) (show sz d (nb + 1) ≤ nb - 1 by omega)
          omega
        have hdv2 : dv 4294967296 d nb = D * F := by
          have := dv_more (B := 4294967296) (sz_le d (nb + 1)) (fun i h1 h2 => sz_above d (nb + 1) i h1 h2)
          rw [hsz] at this; rw [← this, hdv]
        have hrdd : RdA .u64 w2 (.slice (some ⟨db, 0, none⟩) (nb + 1) (nb + 1)) (nb + 1) d := ⟨_, nb + 1, rfl, Nat.le_refl _, by omega, fun _ => ⟨db, 0, rfl, fun i hi => (hdr i hi).1⟩⟩
        have htrim := Trim3_any _ (nb + 1) (nb + 1) d w2 hrdd
        rw [hsz] at htrim
        have HTR := Lib.hid htrim
        have HDR := Lib.hid hdr
        have HDBD : Hid (∀ t, t < nb → 0 ≤ d t ∧ d t < 4294967296) := fun t ht => hdbd t (by omega)
        have HDV := Lib.hid hdv2
        have HRR := Lib.hid (HRR.out.below hb2)
        have hs1 := hb1.size
        have hs2 := hb2.size
        have hrb1 : rb < w1.heap.size := HRK.out.lt
        have hdbw2 : db < w2.heap.size := hdk.lt
        have HB2 := Lib.hid (hb1.trans (hb2.mono hb1.size))
        obtain ⟨hd, hhd⟩ : ∃ hd, hd = d m1 := ⟨_, rfl⟩
        obtain ⟨hd0, hd1⟩ := hdbd m1 (by omega)
        have hcd := (hdr m1 (by omega)).1
        rw [Nat.zero_add] at hcd
        rw [← hhd] at hd0 hd1 hcd
        have HHD := Lib.hid hhd
        clear hdr hdk hdbd hdv hdv2 hsz hrdd htrim hb1 hb2 hhd
        obtain ⟨S, hS⟩ : ∃ S, S = na - nb + 1 := ⟨_, rfl⟩
        have mk : ∀ u : World, (Instr.makeSlice 54 (.int .i64 ((na : Int) - nb + 1)) (.int .i64 ((na : Int) - nb + 1))).run Try.prog u =
            .ok (.slice (some ⟨u.heap.size, 0, none⟩) S S) (u.alloc (.cells (madeCells #[.int .u64 0] S) 22)) := by
          rw [show (na : Int) - nb + 1 = (S : Int) by omega]; exact mk_wds S S (Nat.le_refl _) (by omega)
        have hb3 : Below w2.heap.size w2 (w2.alloc (.cells (madeCells #[.int .u64 0] S) 22)) := (Below.refl _ _).alloc (Nat.le_refl _) _
        have hcd3 := cell_stays hb3 hcd
        have HSS := Lib.hid hS
        have hSn : na - nb < S := by omega
        clear hS
        go_wp2_with (go_at_call 134; (with_reducible refine HTR.out.mono ?_); rintro e w3 ⟨rfl, rfl⟩)
        obtain ⟨qb, hqb⟩ : ∃ qb, qb = w2.heap.size := ⟨_, rfl⟩
        have hq0 := (CellsAt.row (f := fun _ => 0) (CellsAt.made w2 (.int .u64 0) S 22))
        rw [← hqb] at hq0
        obtain ⟨K, hK⟩ : ∃ K, K = na + 1 := ⟨_, rfl⟩
        have hdm : DM w (w2.alloc (.cells (madeCells #[.int .u64 0] S) 22)) rb qb K S nb g (fun _ => 0) d (.slice (some ⟨db, 0, none⟩) nb (nb + 1)) :=
          ⟨by rw [hK]; exact HRR.out.below hb3, hq0, ⟨_, nb + 1, rfl, by omega, by omega, fun _ => ⟨db, 0, rfl, fun i hi => cell_stays hb3 (HDR.out i (by omega)).1⟩⟩, HB2.out.trans (hb3.mono HB2.out.size)⟩
        have hDF0 : 0 < D * F := by omega
        have hdh : DH (A * F) (D * F) K S S g (fun _ => 0) := by
          refine ⟨by rw [hK]; exact HGB.out, fun _ => by omega, fun _ _ => rfl, by rw [dv_zero (n := S) (fun _ _ => rfl), hK, HGV.out]; omega, ?_⟩
          rw [hK, HGV.out]
          have h1 := HFD.out.lt (by omega)
          have h2 := HDD.out.ge (by omega) hnb0
          have h3 := pow_pos' (show (0 : Int) < 4294967296 by omega) S
          have e : (4294967296 : Int) ^ na = 4294967296 ^ (nb - 1) * 4294967296 ^ S := by rw [← Int.pow_add]; congr 1; have := HSS.out; omega
          have h4 : (4294967296 : Int) ^ (nb - 1) * 4294967296 ^ S ≤ D * 4294967296 ^ S := Int.mul_le_mul_of_nonneg_right h2 (by omega)
          have h5 : A * F < D * 4294967296 ^ S * F := Int.mul_lt_mul_of_pos_right (by omega) (by omega)
          have e2 : D * F * 4294967296 ^ S = D * 4294967296 ^ S * F := by grind
          omega
        have hrq : qb ≠ rb := by omega
        have hdbr : (Value.slice (some ⟨db, 0, none⟩) nb (nb + 1)).ownBlock ≠ some rb := by simp [Value.ownBlock]; omega
        have hdbq : (Value.slice (some ⟨db, 0, none⟩) nb (nb + 1)).ownBlock ≠ some qb := by simp [Value.ownBlock]; omega
        have hqbw : w.heap.size ≤ qb := by omega
        have HOFF := Lib.hid (And.intro hrq (And.intro hdbr (And.intro hdbq (And.intro hrb hqbw))))
        have HDM0 := Lib.hid hdm
        have HDH0 := Lib.hid hdh
        have hsub1 : (na : Int) - nb + 1 = (S : Int) := by have := HSS.out; omega
        have hsub : (na : Int) - nb = (S : Int) - 1 := by have := HSS.out; omega
        have hKS : S + nb = K := by have := HSS.out; omega
        have HKS := Lib.hid hKS
        have hKb : K ≤ 1099511627777 := by omega
        have hKc : na + 1 = K := hK.symm
        have HKC := Lib.hid hKc
        clear hq0 hdm hdh hrq hdbr hdbq hqbw hb3 hcd hcd3 mk hrb1 hdbw2 hs1 hs2 hK hKS hKc hDF1
        rw [← hqb, hsub1, hsub, HKC.out]
        generalize w2.alloc (.cells (madeCells #[.int .u64 0] S) 22) = w3 at HDM0 ⊢
        clear hqb hsub hsub1
        go_loopw [11] (fun sv wr => ∃ (c : Nat) (g qf : Nat → Int), c ≤ S ∧ sv = .int .i64 ((c : Int) - 1) ∧ DH (A * F) (D * F) K S c g qf ∧ DM w wr rb qb K S nb g qf d (.slice (some ⟨db, 0, none⟩) nb (nb + 1))) (fun sv _ => (intOf sv + 1).toNat)
        case atStart => exact ⟨S, g, fun _ => 0, Nat.le_refl _, rfl, HDH0.out, HDM0.out⟩
        case round =>
          clear HDH0 HDM0 HGB HGV HRR HRK
          obtain ⟨c, g, qf, c1, rfl, hdh, hdm⟩ := hrel
          rcases c with _ | s
          · have HDH := Lib.hid hdh
            have HDM := Lib.hid hdm
            have hSK : S ≤ K := by have := HKS.out; omega
            have hgb0 := hdh.gb
            have HG0 := Lib.hid hgb0
            clear hdh hdm hgb0
            go_wp2_with fail
            go_loopw [15, 16] (fun rv iv wr => ∃ (c : Nat) (h : Nat → Int) (rho : Int), c ≤ K ∧ iv = .int .i64 ((c : Int) - 1) ∧ rv = .int .u64 rho ∧ DF g F K c h rho ∧ DM w wr rb qb K S nb h qf d (.slice (some ⟨db, 0, none⟩) nb (nb + 1))) (fun _ iv _ => (intOf iv + 1).toNat)
            case atStart => exact ⟨K, g, 0, Nat.le_refl _, rfl, rfl, DF.start HG0.out (by omega), HDM.out⟩
            case round =>
              clear HDM
              obtain ⟨c, h, rho, c1, rfl, rfl, hdf, hdm⟩ := hrel
              have HDF2 := Lib.hid hdf
              have HDM := Lib.hid hdm
              obtain ⟨rho0, rho1⟩ := hdf.rb
              clear hdf hdm
              rcases c with _ | j
              · have hend := div_end (by omega) hD (show 0 < F by omega) HDH.out HDF2.out
                have hq1 := dig_sz (B := 4294967296) (f := qf) (n := S) (fun i _ => HDH.out.qb i)
                have hq2 := dig_sz (B := 4294967296) (f := h) (n := K) HDF2.out.hb
                rw [hend.1] at hq1
                rw [hend.2] at hq2
                have hr1 : RdA .u64 wr (.slice (some ⟨qb, 0, none⟩) S S) S qf := ⟨_, S, rfl, Nat.le_refl _, by omega, fun _ => ⟨qb, 0, rfl, fun i hi => (HDM.out.q i hi).1⟩⟩
                have hr2 : RdA .u64 wr (.slice (some ⟨rb, 0, none⟩) K K) K h := ⟨_, K, rfl, Nat.le_refl _, by omega, fun _ => ⟨rb, 0, rfl, fun i hi => (HDM.out.r i hi).1⟩⟩
                have ht1 := Trim3_any _ S S qf wr hr1
                have ht2 := Trim3_any _ K K h wr hr2
                have hz1 := sz_le qf S
                have hz2 := sz_le h K
                obtain ⟨z1, hze1⟩ : ∃ z1, z1 = sz qf S := ⟨_, rfl⟩
                obtain ⟨z2, hze2⟩ : ∃ z2, z2 = sz h K := ⟨_, rfl⟩
                rw [← hze1] at hq1 ht1 hz1
                rw [← hze2] at hq2 ht2 hz2
                have HT1 := Lib.hid ht1
                have HT2 := Lib.hid ht2
                have HQ1 := Lib.hid hq1
                have HQ2 := Lib.hid hq2
                clear hend hq1 hq2 hr1 hr2 ht1 ht2 hze1 hze2
                go_wp2_with (go_at_call 134; first | ((with_reducible refine HT1.out.mono ?_); rintro e w5 ⟨rfl, rfl⟩) | ((with_reducible refine HT2.out.mono ?_); rintro e w5 ⟨rfl, rfl⟩))
                go_ret2
                refine ⟨_, _, z1, z2, qf, h, rfl, ⟨_, S, rfl, hz1, by omega, fun _ => ⟨qb, 0, rfl, fun i hi => (HDM.out.q i (by omega)).1⟩⟩, HQ1.out, ⟨_, K, rfl, hz2, by omega, fun _ => ⟨rb, 0, rfl, fun i hi => (HDM.out.r i (by omega)).1⟩⟩, HQ2.out, HDM.out.below⟩
              · have hjK : j < K := by omega
                obtain ⟨s0, s1, s2, s3, s4⟩ := HDF2.out.step hjK HG0.out ⟨by omega, by omega⟩
                have hlow := HDF2.out.low j (by omega)
                obtain ⟨k1, k2⟩ := HDM.out.r.get0 hjK hlow
                obtain ⟨u, hu⟩ : ∃ u, u = g j := ⟨_, rfl⟩
                rw [← hu] at s0 s1 s2 s3 s4 k1
                obtain ⟨t, ht⟩ : ∃ t, t = rho * 4294967296 + u := ⟨_, rfl⟩
                rw [← ht] at s0 s1 s2 s3 s4
                have ht' : rho * 4294967296 + u = t := ht.symm
                have hrow := HDM.out.r.set0 hjK (t / F)
                have hgs := gb_set wr ⟨rb, j, none⟩ (.int .u64 (t / F))
                have hdm2 := HDM.out.put HOFF.out.1 HOFF.out.2.1 HOFF.out.2.2.2.1 hrow hgs
                have hu0 := HG0.out j hjK
                rw [← hu] at hu0
                obtain ⟨hu00, hu01⟩ := hu0
                have hj1 : ((j + 1 : Nat) : Int) - 1 = (j : Int) := by omega
                have HN := Lib.hid (And.intro s4 hdm2)
                clear hlow hu ht hrow hgs hdm2 s4 HDM HDF2
                rw [hj1]
                go_wp2_with fail
                go_roundw
                case rel => exact ⟨j, _, _, by omega, by go_num, rfl, HN.out.1, HN.out.2⟩
                case measure => simp [intOf]
          · have HDI := Lib.hid hdh.enter
            have HDM := Lib.hid hdm
            have hs1 : ((s + 1 : Nat) : Int) - 1 = (s : Int) := by omega
            clear hdh hdm
            rw [hs1]
            go_wp2_with fail
            go_loopg [12] ((dv 4294967296 g K).toNat + 1) (fun gk tv wr => ∃ (g qf : Nat → Int), Hid (dv 4294967296 g K < (gk : Int)) ∧ DI (A * F) (D * F) K S s g qf ∧ DM w wr rb qb K S nb g qf d (.slice (some ⟨db, 0, none⟩) nb (nb + 1)))
            case atStart => exact ⟨g, qf, by show _ < _; have := (dv_bd (by omega) HDI.out.gb).1; omega, HDI.out, HDM.out⟩
            case round =>
              clear HDI HDM g qf
              obtain ⟨g, qf, hgk, hdi, hdm⟩ := hrel
              have hsK : s + nb < K := by have := HKS.out; omega
              obtain ⟨t1, ht1⟩ : ∃ t1, t1 = s + nb - 1 := ⟨_, rfl⟩
              obtain ⟨t2, ht2⟩ : ∃ t2, t2 = s + nb := ⟨_, rfl⟩
              obtain ⟨n0, n1, n2⟩ := hdi.digit hnb0 HDBD.out HDV.out hDF0 hsK
              have gb1 := hdi.gb t1 (by omega)
              have gb2 := hdi.gb t2 (by omega)
              obtain ⟨k1, _⟩ := hdm.r.get0 (i := t1) (by omega) rfl
              obtain ⟨k2, _⟩ := hdm.r.get0 (i := t2) (by omega) rfl
              rw [← ht1, ← ht2, ← HM1.out, ← HHD.out] at n0 n1 n2
              obtain ⟨u1, hu1⟩ : ∃ u1, u1 = g t1 := ⟨_, rfl⟩
              obtain ⟨u2, hu2⟩ : ∃ u2, u2 = g t2 := ⟨_, rfl⟩
              rw [← hu1] at n0 n1 n2 gb1 k1
              rw [← hu2] at n0 n1 n2 gb2 k2
              obtain ⟨n, hn⟩ : ∃ n, n = (u1 + u2 * 4294967296) / (hd + 1) := ⟨_, rfl⟩
              rw [← hn] at n0 n1 n2
              have he1 : (s : Int) + nb = (t2 : Int) := by omega
              have he2 : (t2 : Int) - 1 = (t1 : Int) := by omega
              have ht1K : t1 < K := by omega
              have ht2K : t2 < K := by omega
              have hn' : (u1 + u2 * 4294967296) / (hd + 1) = n := hn.symm
              have HDI := Lib.hid hdi
              have HDM := Lib.hid hdm
              have N1 := Lib.hid n1
              have HT := Lib.hid (And.intro ht1 ht2)
              have hsS : s < S := by omega
              obtain ⟨gb10, gb11⟩ := gb1
              obtain ⟨gb20, gb21⟩ := gb2
              clear hdi hdm n1 hu1 hu2 hn ht1 ht2
              by_cases hz : n = 0
              · have hzb : (n == 0) = true := beq_iff_eq.2 hz
                have hgo := goes_any _ _ K nb s g d wr hKb (by omega) (show RdA .u64 wr (.slice (some ⟨rb, 0, none⟩) K K) K g from ⟨_, K, rfl, Nat.le_refl _, by omega, fun _ => ⟨rb, 0, rfl, fun i hi => (HDM.out.r i hi).1⟩⟩) HDM.out.d HDI.out.gb HDBD.out
                  (fun t h1 h2 => HDI.out.high hDF0 (by rw [← HDV.out]; exact (dv_bd (by omega) HDBD.out).2) t h1 h2)
                rw [HDV.out] at hgo
                have hiff := up_ge HDI.out.gb (show s ≤ K by omega) (D * F)
                have HIFF := Lib.hid hiff
                clear hiff
                by_cases hge : D * F ≤ up g K s
                · rw [decide_eq_true hge] at hgo
                  have hle1 : 1 * (D * F) * 4294967296 ^ s ≤ dv 4294967296 g K := by rw [Int.one_mul]; exact HIFF.out.1 hge
                  have HLE := Lib.hid hle1
                  have HGO := Lib.hid hgo
                  have hone : (0 : Int) ≤ 1 := by omega
                  clear hgo hle1 hge hz
                  go_wp2_with (go_at_call 136; refine HGO.out.mono ?_; rintro e w4 ⟨rfl, hb4⟩; have HDM := Lib.hid (HDM.out.same hb4))
                  refine (takeOff_any rb K nb s K g d 1 (.slice (some ⟨db, 0, none⟩) nb (nb + 1)) _ hKb (by omega) ⟨hone, by omega⟩ HDM.out.r HDM.out.d HOFF.out.2.1 HDI.out.gb HDBD.out (by rw [HDV.out]; exact HLE.out)).mono ?_
                  rintro e w5 ⟨g', rfl, hr5, hgb', hgv', hg5⟩
                  rw [HDV.out] at hgv'
                  have hdm5 := HDM.out.put HOFF.out.1 HOFF.out.2.1 HOFF.out.2.2.2.1 hr5 hg5
                  obtain ⟨e1, e2, hdi5⟩ := HDI.out.take hDF0 hsS hone hgb' hgv'
                  obtain ⟨v0, v1⟩ := HDI.out.qb s
                  obtain ⟨qc1, qc2⟩ := hdm5.q.get0 hsS rfl
                  obtain ⟨qs, hqs⟩ : ∃ qs, qs = qf s := ⟨_, rfl⟩
                  rw [← hqs] at e1 e2 hdi5 v0 v1 qc1
                  have hdm6 := hdm5.putq HOFF.out.1 HOFF.out.2.2.1 HOFF.out.2.2.2.2 hsS (qs + 1)
                  have hdec : dv 4294967296 g' K < dv 4294967296 g K := dec_of hDF0 (Int.le_refl 1) hgv'
                  have hgk5 : 0 ≤ dv 4294967296 g' K := (dv_bd (by omega) hgb').1
                  have hm5 : (dv 4294967296 g' K).toNat + 1 < gk := by have := hgk.out; omega
                  have hm6 : dv 4294967296 g' K < (((dv 4294967296 g' K).toNat + 1 : Nat) : Int) := by omega
                  have HM5 := Lib.hid (And.intro hm5 (And.intro hm6 (And.intro hdi5 hdm6)))
                  clear hr5 hgb' hgv' hg5 hdm5 hdi5 hqs hdm6 hdec hgk5 hm5 hm6 HDI HDM hgk
                  go_wp2_with fail
                  go_roundg ((dv 4294967296 g' K).toNat + 1)
                  case measure => exact HM5.out.1
                  case rel => exact ⟨g', _, HM5.out.2.1, HM5.out.2.2.1, HM5.out.2.2.2⟩
                · rw [decide_eq_false hge] at hgo
                  have hout := HDI.out.leave (Int.not_le.1 fun h => hge (HIFF.out.2 h))
                  have HOUT := Lib.hid hout
                  have HGO := Lib.hid hgo
                  clear hgo hge hz hout
                  go_wp2_with (go_at_call 136; refine HGO.out.mono ?_; rintro e w4 ⟨rfl, hb4⟩; have HDM := Lib.hid (HDM.out.same hb4))
                  go_roundw
                  case rel => exact ⟨s, g, qf, by omega, by go_num, HOUT.out, HDM.out⟩
                  case measure => simp [intOf]
              · have hzb : (n == 0) = false := beq_eq_false_iff_ne.2 hz
                have hn1 : 1 ≤ n := by omega
                clear hz
                go_wp2_with fail
                refine (takeOff_any rb K nb s K g d n (.slice (some ⟨db, 0, none⟩) nb (nb + 1)) _ hKb (by omega) ⟨n0, by omega⟩ HDM.out.r HDM.out.d HOFF.out.2.1 HDI.out.gb HDBD.out (by rw [HDV.out]; exact N1.out)).mono ?_
                rintro e w5 ⟨g', rfl, hr5, hgb', hgv', hg5⟩
                rw [HDV.out] at hgv'
                have hdm5 := HDM.out.put HOFF.out.1 HOFF.out.2.1 HOFF.out.2.2.2.1 hr5 hg5
                obtain ⟨e1, e2, hdi5⟩ := HDI.out.take hDF0 hsS n0 hgb' hgv'
                obtain ⟨v0, v1⟩ := HDI.out.qb s
                obtain ⟨qc1, qc2⟩ := hdm5.q.get0 hsS rfl
                obtain ⟨qs, hqs⟩ : ∃ qs, qs = qf s := ⟨_, rfl⟩
                rw [← hqs] at e1 e2 hdi5 v0 v1 qc1
                have hdm6 := hdm5.putq HOFF.out.1 HOFF.out.2.2.1 HOFF.out.2.2.2.2 hsS (qs + n)
                have hdec : dv 4294967296 g' K < dv 4294967296 g K := dec_of hDF0 hn1 hgv'
                have hgk5 : 0 ≤ dv 4294967296 g' K := (dv_bd (by omega) hgb').1
                have hm5 : (dv 4294967296 g' K).toNat + 1 < gk := by have := hgk.out; omega
                have hm6 : dv 4294967296 g' K < (((dv 4294967296 g' K).toNat + 1 : Nat) : Int) := by omega
                have HM5 := Lib.hid (And.intro hm5 (And.intro hm6 (And.intro hdi5 hdm6)))
                clear hr5 hgb' hgv' hg5 hdm5 hdi5 hqs hdm6 hdec hgk5 hm5 hm6 HDI HDM hgk
                go_wp2_with fail
                go_roundg ((dv 4294967296 g' K).toNat + 1)
                case measure => exact HM5.out.1
                case rel => exact ⟨g', _, HM5.out.2.1, HM5.out.2.2.1, HM5.out.2.2.2⟩

end Go.Proofs.Ytdlpemmoobbgnaa

namespace Go.Proofs.Ytdlpemmoobbgnaa
open Go.RowKit

theorem FrH.nat {w : World} {base : Nat} {v : Value} {N : Int} (h : FrH w base v N) : ∃ a n cap f, v = .slice a n cap ∧ FrA .u64 22 w base (.slice a n cap) n f ∧ Dig 4294967296 n f N := by
  obtain ⟨n, f, h1, h2⟩ := h
  obtain ⟨a, cap, rfl⟩ := h1.slice
  exact ⟨a, n, cap, f, rfl, h1, h2⟩

theorem RdA.slice {k : IntKind} {w : World} {v : Value} {n : Nat} {f : Nat → Int} (h : RdA k w v n f) : ∃ a cap, v = .slice a n cap := by
  obtain ⟨a, cap, rfl, _⟩ := h
  exact ⟨a, cap, rfl⟩

set_option maxHeartbeats 1000000 in
theorem DivMod_any (x y : Value) (n m : Nat) (f g : Nat → Int) (w : World) (hn : n ≤ 549755813888) (hm : m ≤ 549755813888) (hD : 0 < natFrom g 0 m) (hx : RdW w x n f) (hy : RdW w y m g) :
    Calls Try.prog 126 #[x, y] w fun e w' => ∃ v1 v2, e = .returned (.tuple #[v1, v2, .int .i64 0]) ∧ FrN w' w.heap.size v1 (natFrom f 0 n / natFrom g 0 m) ∧ FrN w' w.heap.size v2 (natFrom f 0 n % natFrom g 0 m) ∧ Below w.heap.size w w' := by
  have HX := Lib.hid hx
  have HY := Lib.hid hy
  have lt1 : natFrom f 0 n < 4294967296 ^ (2 * n) := by
    have := (natFrom_bd hx.2).2
    rw [Int.pow_mul]; exact this
  have lt2 : natFrom g 0 m < 4294967296 ^ (2 * m) := by
    have := (natFrom_bd hy.2).2
    rw [Int.pow_mul]; exact this
  obtain ⟨ax, cx, rfl, -⟩ := hx.1
  obtain ⟨ay, cy, rfl, -⟩ := hy.1
  obtain ⟨A, hA⟩ : ∃ A, A = natFrom f 0 n := ⟨_, rfl⟩
  obtain ⟨D, hDe⟩ : ∃ D, D = natFrom g 0 m := ⟨_, rfl⟩
  rw [← hA] at lt1 ⊢
  rw [← hDe] at lt2 hD ⊢
  have HL1 := Lib.hid lt1
  have HL2 := Lib.hid lt2
  have HA := Lib.hid hA.symm
  have HD := Lib.hid hDe.symm
  clear hx hy lt1 lt2 hA hDe
  go_enter Try.func126, Try.ntmps126
  go_wp2_with fail
  refine (halves_any _ m g _ (by omega) HY.out).mono ?_
  rw [HD.out]
  rintro e w1 ⟨v1, rfl, hfr, hb1⟩
  obtain ⟨a1, n1, c1, f1, rfl, hfr, hdg⟩ := hfr.nat
  have hn1 : n1 ≤ 1099511627776 := by have := hdg.len (by omega) HL2.out; omega
  have hn0 : 0 < n1 := Nat.pos_of_ne_zero fun h => by have := (hdg.zero_iff (by omega)).1 h; omega
  have HF1 := Lib.hid hfr
  have HD1 := Lib.hid hdg
  have HX := Lib.hid (HX.out.below hb1)
  have HB1 := Lib.hid hb1
  have hn1b : ((n1 : Int) == 0) = false := beq_eq_false_iff_ne.2 (by omega)
  clear hfr hdg hb1
  go_wp2_with fail
  refine (halves_any _ n f _ (by omega) HX.out).mono ?_
  rw [HA.out]
  rintro e w2 ⟨v2, rfl, hfr, hb2⟩
  obtain ⟨a2, n2, c2, f2, rfl, hfr, hdg⟩ := hfr.nat
  have hn2 : n2 ≤ 1099511627776 := by have := hdg.len (by omega) HL1.out; omega
  have HF1 := Lib.hid (HF1.out.below hb2)
  have HF2 := Lib.hid hfr
  have HD2 := Lib.hid hdg
  have HB2 := Lib.hid (HB1.out.trans (hb2.mono HB1.out.size))
  clear hfr hdg hb2
  go_wp2_with fail
  refine (divide_any _ _ n2 n1 f2 f1 A D _ hn2 hn1 HF2.out.read HF1.out.read HD2.out HD1.out hD).mono ?_
  rintro e w3 ⟨q1, q2, k1, k2, g1, g2, rfl, hr1, hd1, hr2, hd2, hb3⟩
  obtain ⟨b1, s1, rfl⟩ := hr1.slice
  obtain ⟨b2, s2, rfl⟩ := hr2.slice
  have hA0 := HD2.out.nonneg (by omega)
  have hk1 : k1 ≤ 1099511627776 := by
    have h1 : A / D ≤ A := Int.ediv_le_self _ hA0
    have := hd1.len_le (by omega) HD2.out h1; omega
  have hk2 : k2 ≤ 1099511627776 := by
    have h1 : A % D ≤ D := Int.le_of_lt (Int.emod_lt_of_pos _ hD)
    have := hd2.len_le (by omega) HD1.out h1; omega
  have HR1 := Lib.hid hr1
  have HR2 := Lib.hid hr2
  have HG1 := Lib.hid hd1
  have HG2 := Lib.hid hd2
  have HB3 := Lib.hid (HB2.out.trans (hb3.mono HB2.out.size))
  clear hr1 hr2 hd1 hd2 hb3
  go_wp2_with fail
  refine (words3_any _ k1 _ g1 _ hk1 HG1.out.bd HR1.out).mono ?_
  rw [HG1.out.val]
  rintro e w4 ⟨v4, rfl, hfn, hb4⟩
  obtain ⟨a4, n4, c4, f4, rfl, h1, h2⟩ := hfn.nat
  have H1 := Lib.hid (h1.mono HB3.out.size)
  have H2 := Lib.hid h2
  have HR2 := Lib.hid (HR2.out.below hb4)
  have HB4 := Lib.hid (HB3.out.trans (hb4.mono HB3.out.size))
  clear hfn h1 h2 hb4
  go_wp2_with fail
  refine (words3_any _ k2 _ g2 _ hk2 HG2.out.bd HR2.out).mono ?_
  rw [HG2.out.val]
  rintro e w5 ⟨v5, rfl, hfn, hb5⟩
  obtain ⟨a5, n5, c5, f5, rfl, h1, h2⟩ := hfn.nat
  have H1 := Lib.hid (H1.out.below hb5)
  have H3 := Lib.hid (h1.mono HB4.out.size)
  have H4 := Lib.hid h2
  have HB5 := Lib.hid (HB4.out.trans (hb5.mono HB4.out.size))
  clear hfn h1 h2 hb5
  go_wp2_with fail
  refine bodyPost_ret (v := .tuple #[.slice a4 n4 c4, .slice a5 n5 c5, .int .i64 0]) (by simp [results, Try.results126, go_sem]) rfl ⟨_, _, rfl, ⟨_, _, H1.out, H2.out⟩, ⟨_, _, H3.out, H4.out⟩, HB5.out⟩

end Go.Proofs.Ytdlpemmoobbgnaa

namespace Go.Proofs.Ytdlpemmoobbgnaa
open Go.RowKit

theorem RdZ.zb {w : World} {v : Value} {z : Int} (h : RdZ w v z) : ∃ S, S ≤ 274877906944 ∧ ZB S z := by
  obtain ⟨r, h1, rfl, h2⟩ := h
  exact ⟨r.n, h2, h1.zb⟩

/-- four boxes of two cells, just made, the last two for results -/
theorem boxes4f (w : World) (a0 a1 b0 b1 d0 d1 c0 c1 : Value) (t : TypeId) :
    let W := (((w.alloc (.cells #[a0, a1] t)).alloc (.cells #[b0, b1] t)).alloc (.cells #[d0, d1] t)).alloc (.cells #[c0, c1] t)
    (W.cell? ⟨w.heap.size, 0, none⟩ = some a0 ∧ W.cell? ⟨w.heap.size, 1, none⟩ = some a1 ∧ W.cell? ⟨w.heap.size + 1, 0, none⟩ = some b0 ∧ W.cell? ⟨w.heap.size + 1, 1, none⟩ = some b1 ∧
      W.cell? ⟨w.heap.size + 1 + 1, 0, none⟩ = some d0 ∧ W.cell? ⟨w.heap.size + 1 + 1, 1, none⟩ = some d1 ∧ W.frozen? ⟨w.heap.size + 1 + 1, 0, none⟩ = false ∧ W.frozen? ⟨w.heap.size + 1 + 1, 1, none⟩ = false ∧
      W.cell? ⟨w.heap.size + 1 + 1 + 1, 0, none⟩ = some c0 ∧ W.cell? ⟨w.heap.size + 1 + 1 + 1, 1, none⟩ = some c1 ∧ W.frozen? ⟨w.heap.size + 1 + 1 + 1, 0, none⟩ = false ∧ W.frozen? ⟨w.heap.size + 1 + 1 + 1, 1, none⟩ = false) ∧
    Below w.heap.size w W ∧ W.heap.size = w.heap.size + 4 := by
  intro W
  obtain ⟨w3, h3⟩ : ∃ w3, w3 = ((w.alloc (.cells #[a0, a1] t)).alloc (.cells #[b0, b1] t)).alloc (.cells #[d0, d1] t) := ⟨_, rfl⟩
  obtain ⟨⟨x0, x1, y0, y1, z0, z1, z2, z3⟩, hb, hs⟩ := boxes3 w a0 a1 b0 b1 d0 d1 t
  rw [← h3] at x0 x1 y0 y1 z0 z1 z2 z3 hb hs
  have hW : W = w3.alloc (.cells #[c0, c1] t) := by rw [h3]
  have b3 : Below w3.heap.size w3 W := by rw [hW]; exact (Below.refl _ _).alloc (Nat.le_refl _) _
  have k3 := cells2 w3 c0 c1 t
  rw [← hW, hs] at k3
  have sW : W.heap.size = w.heap.size + 4 := by rw [hW]; simp [hs]
  clear_value W
  exact ⟨⟨cell_stays b3 x0, cell_stays b3 x1, cell_stays b3 y0, cell_stays b3 y1, cell_stays b3 z0, cell_stays b3 z1, froz_stays b3 z0 z2, froz_stays b3 z1 z3, (k3 0 _ rfl).1, (k3 1 _ rfl).1, (k3 0 _ rfl).2, (k3 1 _ rfl).2⟩, hb.trans (b3.mono (by omega)), sW⟩

theorem stored2_fr' {k : IntKind} {e : TypeId} {w3 : World} {base b : Nat} {x : Value} {n : Nat} {f : Nat → Int} (h : FrA k e w3 base x n f) (hb : b < base) (u v : Value) : FrA k e (stored2 w3 b u v) base x n f := by
  refine h.grown (stored2_gb w3 b u v) ?_
  cases hx : x.ownBlock with
  | none => exact Or.inl rfl
  | some k => right; have := (h.lt hx).1; intro e; injection e with e; omega
theorem stored2_below' {w w3 : World} (h : Below w.heap.size w w3) {b : Nat} (hb : w.heap.size ≤ b) (u v : Value) : Below w.heap.size w (stored2 w3 b u v) :=
  h.grown (stored2_gb w3 _ u v) h.size (fun k hk => by injection hk with hk; omega)

theorem truncZ (p q : Bool) {N M : Int} (hN : 0 ≤ N) (hM : 0 < M) :
    (if p then -N else N).tdiv (if q then -M else M) = (if (!(p == q)) = true then -(N / M) else N / M) ∧ (if p then -N else N).tmod (if q then -M else M) = (if p then -(N % M) else N % M) := by
  have e1 : N.tdiv M = N / M := Int.tdiv_eq_ediv_of_nonneg hN
  have e2 : N.tmod M = N % M := Int.tmod_eq_emod_of_nonneg hN
  cases p <;> cases q <;> simp [Int.neg_tdiv, Int.tdiv_neg, Int.neg_tmod, Int.tmod_neg, e1, e2]

set_option maxHeartbeats 1000000 in
theorem Trunc_any (x y : Value) (a b : Int) (w : World) (hb0 : b ≠ 0) (hx : RdZ w x a) (hy : RdZ w y b) :
    Calls Try.prog 101 #[x, y] w fun e w' => ∃ v1 v2, e = .returned (.tuple #[v1, v2, .int .i64 0]) ∧ FrZ w' w.heap.size v1 (a.tdiv b) ∧ FrZ w' w.heap.size v2 (a.tmod b) ∧ Below w.heap.size w w' := by
  obtain ⟨p, am, n, cm, f, rfl, hr, hn, ha⟩ := hx.parts
  obtain ⟨q, al, m, cl, g, rfl, hs, hm, hb'⟩ := hy.parts
  have hM : 0 < natFrom g 0 m := by
    have := (natFrom_bd hs.2).1
    rcases (by omega : natFrom g 0 m = 0 ∨ 0 < natFrom g 0 m) with h | h
    · exfalso; rw [h] at hb'; apply hb0; rw [hb']; split <;> rfl
    · exact h
  obtain ⟨e1, e2⟩ := truncZ p q (natFrom_bd hr.2).1 hM
  rw [← ha, ← hb'] at e1 e2
  obtain ⟨⟨x0, x1, y0, y1, t0, t1, t2, t3, z0, z1, z2, z3⟩, hb, hs4⟩ := boxes4f w (.bool p) (.slice am n cm) (.bool q) (.slice al m cl) (.bool false) (.slice none 0 0) (.bool false) (.slice none 0 0) 56
  have hdm := DivMod_any _ _ n m f g _ (by omega) (by omega) hM (hr.below hb) (hs.below hb)
  have HL1 := Lib.hid (natFrom_bd hr.2)
  have HL2 := Lib.hid (natFrom_bd hs.2)
  have HMM := Lib.hid hM
  generalize natFrom f 0 n = N at *
  generalize natFrom g 0 m = M at *
  have HDM := Lib.hid hdm
  have E1 := Lib.hid e1
  have E2 := Lib.hid e2
  have HB := Lib.hid hb
  have HS4 := Lib.hid hs4
  clear hx hy hr hs ha hb' hM hb hs4 hdm e1 e2 hb0
  go_enter Try.func101, Try.ntmps101
  go_wp2_with fail
  refine HDM.out.mono ?_
  rintro e w4 ⟨v1, v2, rfl, hf1, hf2, hb4⟩
  obtain ⟨a1, n1, c1, f1, rfl, h1, d1⟩ := hf1.nat
  obtain ⟨a2, n2, c2, f2, rfl, h2, d2⟩ := hf2.nat
  have hn1 : n1 ≤ 1099511627776 := by
    have h : N / M ≤ N := Int.ediv_le_self _ HL1.out.1
    have := d1.len (by omega) (Int.lt_of_le_of_lt h HL1.out.2); omega
  have hn2 : n2 ≤ 1099511627776 := by
    have h : N % M < M := Int.emod_lt_of_pos _ HMM.out
    have := d2.len (by omega) (Int.lt_trans h HL2.out.2); omega
  have x0 := cell_stays hb4 x0
  have y0 := cell_stays hb4 y0
  have t2 := froz_stays hb4 t0 t2
  have t3 := froz_stays hb4 t1 t3
  have t0 := cell_stays hb4 t0
  have t1 := cell_stays hb4 t1
  have z2 := froz_stays hb4 z0 z2
  have z3 := froz_stays hb4 z1 z3
  have z0 := cell_stays hb4 z0
  have z1 := cell_stays hb4 z1
  have H1 : Hid (RdW w4 (.slice a1 n1 c1) n1 f1) := ⟨h1.read, d1.words⟩
  have H2 : Hid (RdW w4 (.slice a2 n2 c2) n2 f2) := ⟨h2.read, d2.words⟩
  have HV1 : Hid (natFrom f1 0 n1 = N / M) := by show _ = _; rw [natFrom_dv0]; exact d1.val
  have HV2 : Hid (natFrom f2 0 n2 = N % M) := by show _ = _; rw [natFrom_dv0]; exact d2.val
  have HB4 := Lib.hid (HB.out.trans (hb4.mono HB.out.size))
  have hsz : w.heap.size + 4 ≤ w4.heap.size := by have := hb4.size; rw [HS4.out] at this; exact this
  clear hf1 hf2 h1 h2 d1 d2 hb4
  go_wp2_with fail
  have cm1 := made_any (!(p == q)) _ n1 f1 _ hn1 (H1.out.below (Below.refl w4.heap.size w4).drew)
  rw [HV1.out, ← E1.out] at cm1
  have CM1 := Lib.hid cm1
  clear cm1
  go_region_with ((go_at_call 70; first
    | ((with_reducible refine CM1.out.mono ?_); rintro e w5 ⟨v5, rfl, ⟨m5, n5, f5, rfl, h5, d5⟩, hb5⟩; obtain ⟨a5, c5, rfl⟩ := h5.slice; have x0 := cell_stays (w := w4.drew) hb5 x0; have y0 := cell_stays (w := w4.drew) hb5 y0; have H2 := Lib.hid ((H2.out.below (Below.refl w4.heap.size w4).drew).below hb5); have cm2 := made_any p _ n2 f2 _ hn2 H2.out; rw [HV2.out, ← E2.out] at cm2; have CM2 := Lib.hid cm2; clear cm2)
    | ((with_reducible refine CM2.out.mono ?_); rintro e w6 ⟨v6, rfl, ⟨m6, n6, f6, rfl, h6, d6⟩, hb6⟩; obtain ⟨a6, c6, rfl⟩ := h6.slice; have hb46 : Below w4.heap.size w4 w6 := (((Below.refl w4.heap.size w4).drew).trans hb5).trans (hb6.mono hb5.size); have t2 := froz_stays hb46 t0 t2; have t3 := froz_stays hb46 t1 t3; have t0 := cell_stays hb46 t0; have t1 := cell_stays hb46 t1; have z2 := froz_stays hb46 z0 z2; have z3 := froz_stays hb46 z1 z3; have z0 := cell_stays hb46 z0; have z1 := cell_stays hb46 z1)))
  all_goals
    have hbw6 : Below w.heap.size w w6 := HB4.out.trans (hb46.mono HB4.out.size)
    have k5 := (h5.below hb6).mono (base' := w.heap.size + 4) hsz
    have k6 := h6.mono (base' := w.heap.size + 4) (Nat.le_trans hsz hb5.size)
    have F5 := Lib.hid ((stored2_fr' (stored2_fr' k5 (b := w.heap.size + 1 + 1) (by omega) (.bool (decide (a.tdiv b < 0))) (.slice a5 n5 c5)) (b := w.heap.size + 1 + 1 + 1) (by omega) (.bool (decide (a.tmod b < 0))) (.slice a6 n6 c6)).mono (base' := w.heap.size) (by omega))
    have F6 := Lib.hid ((stored2_fr' (stored2_fr' k6 (b := w.heap.size + 1 + 1) (by omega) (.bool (decide (a.tdiv b < 0))) (.slice a5 n5 c5)) (b := w.heap.size + 1 + 1 + 1) (by omega) (.bool (decide (a.tmod b < 0))) (.slice a6 n6 c6)).mono (base' := w.heap.size) (by omega))
    have FB := Lib.hid (stored2_below' (stored2_below' hbw6 (b := w.heap.size + 1 + 1) (by omega) (.bool (decide (a.tdiv b < 0))) (.slice a5 n5 c5)) (b := w.heap.size + 1 + 1 + 1) (by omega) (.bool (decide (a.tmod b < 0))) (.slice a6 n6 c6))
    have D5 := Lib.hid d5
    have D6 := Lib.hid d6
    clear k5 k6 h5 h6 d5 d6 hb5 hb6 hb46 hbw6
    go_wp2_with fail
    refine bodyPost_ret (v := .tuple #[.agg #[.bool (decide (a.tdiv b < 0)), .slice a5 n5 c5], .agg #[.bool (decide (a.tmod b < 0)), .slice a6 n6 c6], .int .i64 0]) ?_ rfl ⟨_, _, rfl, ⟨_, n5, f5, rfl, F5.out, D5.out⟩, ⟨_, n6, f6, rfl, F6.out, D6.out⟩, FB.out⟩
    simp [results, Try.results101, go_sem, z0, z1, t0, t1]

end Go.Proofs.Ytdlpemmoobbgnaa
