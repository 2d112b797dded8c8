/- The walks of trellisref03.Trim, halves, words, scaled. -/
import Derived.Test.YtdlpemmoobbgnaaR09
set_option linter.unusedVariables false
set_option linter.unusedSimpArgs false
namespace Go.Proofs.Ytdlpemmoobbgnaa
open Go.RowKit

set_option maxHeartbeats 400000 in
theorem Trim3_any (a : Option Addr) (n cap : Nat) (f : Nat → Int) (w : World) (hr : RdA .u64 w (.slice a n cap) n f) :
    Calls Try.prog 134 #[.slice a n cap] w fun e w' => e = .returned (.slice a (sz f n) cap) ∧ w = w' := by
  obtain ⟨a', cap', e, h1, h2, h3⟩ := wd_get hr
  simp only [Value.slice.injEq, true_and] at e
  obtain ⟨rfl, rfl⟩ := e
  have H3 := Lib.hid h3
  clear h3 hr
  go_enter Try.func134, Try.ntmps134
  go_wp2_with fail
  go_loop [3] (fun kv => ∃ k : Nat, k ≤ n ∧ Hid (sz f k = sz f n) ∧ kv = .int .i64 k) (fun kv => (intOf kv).toNat)
  case atStart => exact ⟨n, Nat.le_refl _, rfl, rfl⟩
  case round =>
    obtain ⟨k, k1, k2, rfl⟩ := hrel
    rcases Nat.eq_zero_or_pos k with e | hk
    · subst e
      go_wp2_with fail
      go_ret
      exact ⟨by rw [← k2.out]; rfl, rfl⟩
    · obtain ⟨b, o, rfl, hc⟩ := H3.out (k - 1) (by omega)
      have hk' : (0 : Int) < (k : Int) := by omega
      obtain ⟨x, hx⟩ : ∃ x, x = f (k - 1) := ⟨_, rfl⟩
      rw [← hx] at hc
      obtain ⟨q, hq⟩ : ∃ q, q = k - 1 := ⟨_, rfl⟩
      rw [← hq] at hc
      have hq1 : (k : Int) - 1 = (q : Int) := by omega
      have hq2 : q < n := by omega
      have HQ := Lib.hid hq
      have HX := Lib.hid hx
      clear hq hx
      by_cases hz : x = 0
      · have hzb : (x == 0) = true := beq_iff_eq.2 hz
        have HZ := Lib.hid hz
        clear hz
        go_wp2_with fail
        go_round
        case rel =>
          refine ⟨q, by omega, ?_, rfl⟩
          show _ = _
          rw [← k2.out, show k = q + 1 by have := HQ.out; omega]
          show _ = if f q = 0 then sz f q else q + 1
          rw [if_pos (by rw [HQ.out, ← HX.out]; exact HZ.out)]
        case measure => simp [intOf]; omega
      · have hzb : (x == 0) = false := beq_eq_false_iff_ne.2 hz
        have hfin : Hid (sz f n = k) := by
          show _ = _
          rw [← k2.out, show k = q + 1 by have := HQ.out; omega]
          show (if f q = 0 then sz f q else q + 1) = _
          rw [if_neg (by rw [HQ.out, ← HX.out]; exact hz)]
        clear hz
        go_wp2_with fail
        go_ret
        exact ⟨by rw [hfin.out]; rfl, rfl⟩

/-- fresh digits of the number N to the base 2^32 -/
def FrH (w : World) (base : Nat) (v : Value) (N : Int) : Prop := ∃ n f, FrA .u64 22 w base v n f ∧ Dig 4294967296 n f N

/-- the two digits to the base 2^32 of each word -/
def hv (f : Nat → Int) (t : Nat) : Int := if t % 2 = 0 then f (t / 2) % 4294967296 else f (t / 2) / 4294967296
theorem hv_bd {f : Nat → Int} {n : Nat} (h : ∀ i, i < n → 0 ≤ f i ∧ f i < 18446744073709551616) (t : Nat) (ht : t < 2 * n) : 0 ≤ hv f t ∧ hv f t < 4294967296 := by
  have := h (t / 2) (by omega)
  unfold hv; split <;> omega
theorem hv_dv (f : Nat → Int) : ∀ n, dv 4294967296 (hv f) (2 * n) = dv 18446744073709551616 f n
  | 0 => rfl
  | n + 1 => by
    have ih := hv_dv f n
    rw [show 2 * (n + 1) = 2 * n + 1 + 1 by omega]
    simp only [dv]
    rw [ih]
    have e0 : hv f (2 * n) = f n % 4294967296 := by unfold hv; rw [if_pos (by omega), show 2 * n / 2 = n by omega]
    have e1 : hv f (2 * n + 1) = f n / 4294967296 := by unfold hv; rw [if_neg (by omega), show (2 * n + 1) / 2 = n by omega]
    have hp : (4294967296 : Int) ^ (2 * n) = 18446744073709551616 ^ n := by rw [Int.pow_mul]; rfl
    rw [e0, e1, Int.pow_succ, hp]
    obtain ⟨q, hq⟩ : ∃ q, q = f n / 4294967296 := ⟨_, rfl⟩
    have : f n % 4294967296 = f n - 4294967296 * q := by omega
    rw [this, ← hq]
    grind

set_option maxHeartbeats 1000000 in
set_option maxRecDepth 100000 in
theorem halves_any (v : Value) (n : Nat) (f : Nat → Int) (w : World) (hn : n ≤ 1099511627776) (hr : RdW w v n f) :
    Calls Try.prog 131 #[v] w fun e w' => ∃ v', e = .returned v' ∧ FrH w' w.heap.size v' (natFrom f 0 n) ∧ Below w.heap.size w w' := by
  obtain ⟨hr, hw⟩ := hr
  obtain ⟨a, cap, rfl, h1, h2, h3⟩ := wd_get hr
  have hle := sz_le f n
  have htr := Trim3_any a n cap f w hr
  obtain ⟨m, hm⟩ : ∃ m, m = sz f n := ⟨_, rfl⟩
  have hval : dv 18446744073709551616 f m = natFrom f 0 n := by rw [natFrom_dv0, hm]; exact (dig_sz (words_bd hw)).val
  rw [← hm] at hle htr
  have H3 := Lib.hid h3
  have HW := Lib.hid hw
  have HT := Lib.hid htr
  have HV := Lib.hid hval
  clear h3 hr hw hm htr hval
  obtain ⟨K, hK⟩ : ∃ K, K = 2 * m := ⟨_, rfl⟩
  have hKb : K ≤ 17592186044416 := by omega
  have mk : ∀ u : World, (Instr.makeSlice 54 (.int .i64 (2 * (m : Int))) (.int .i64 (2 * (m : Int)))).run Try.prog u =
      .ok (.slice (some ⟨u.heap.size, 0, none⟩) K K) (u.alloc (.cells (madeCells #[.int .u64 0] K) 22)) := by
    rw [show 2 * (m : Int) = (K : Int) by omega]; exact mk_wds K K (Nat.le_refl _) hKb
  have HK := Lib.hid hK
  clear hK
  go_enter Try.func131, Try.ntmps131
  go_wp2_with (go_at_call 134; (with_reducible refine HT.out.mono ?_); rintro e w3 ⟨rfl, rfl⟩)
  have hr0 := (CellsAt.row (f := fun _ => 0) (CellsAt.made w (.int .u64 0) K 22))
  have hk0 := Blk.made w (.int .u64 0) K 22
  have hg0 := World.grownBy_alloc w (.cells (madeCells #[.int .u64 0] K) 22) (some w.heap.size)
  have HR0 := Lib.hid hr0
  have HK0 := Lib.hid hk0
  have HG0 := Lib.hid hg0
  clear hr0 hk0 hg0 mk
  generalize w.alloc (.cells (madeCells #[.int .u64 0] K) 22) = w4 at HR0 HK0 HG0 ⊢
  go_loopw [4] (fun iv wr => ∃ j : Nat, j ≤ m ∧ iv = .int .i64 j ∧ RowAt .u64 wr w.heap.size 0 K (fun t => if t < 2 * j then hv f t else 0) ∧ Blk wr w.heap.size K 22 ∧ w.grownBy wr (some w.heap.size)) (fun iv _ => m - (intOf iv).toNat)
  case atStart => exact ⟨0, by omega, rfl, HR0.out.congr fun i _ => (if_neg (by omega)).symm, HK0.out, HG0.out⟩
  case round =>
    clear HR0 HK0 HG0
    obtain ⟨j, j1, rfl, hrow, hblk, hgr⟩ := hrel
    by_cases hj : j < m
    · obtain ⟨b, o, rfl, hc⟩ := H3.out j (by omega)
      have hc := hgr.cell hc (by simp; have := World.block_lt_of_cell? w _ hc; simp at this; omega)
      obtain ⟨x, hx⟩ : ∃ x, x = f j := ⟨_, rfl⟩
      obtain ⟨x0, x1⟩ := HW.out j (by omega)
      rw [← hx] at hc x0 x1
      have hK0 : 2 * j < K := by have := HK.out; omega
      have hK1 : 2 * j + 1 < K := by have := HK.out; omega
      obtain ⟨d1, d2⟩ := hrow.get0 (i := 2 * j) hK0 (x := 0) (if_neg (by omega))
      obtain ⟨d3, d4⟩ := hrow.get0 (i := 2 * j + 1) hK1 (x := 0) (if_neg (by omega))
      have hrow2 := (hrow.set0 hK0 (x % 4294967296)).set0 hK1 (x / 4294967296)
      have hblk2 := (hblk.set (2 * j) (.int .u64 (x % 4294967296))).set (2 * j + 1) (.int .u64 (x / 4294967296))
      have hgr2 := gb_trans hgr (gb_trans (gb_set wr ⟨w.heap.size, 2 * j, none⟩ (.int .u64 (x % 4294967296))) (gb_set _ ⟨w.heap.size, 2 * j + 1, none⟩ (.int .u64 (x / 4294967296))))
      have HN := Lib.hid (And.intro hrow2 (And.intro hblk2 hgr2))
      have HX := Lib.hid hx
      have hne : b ≠ w.heap.size := by
        obtain ⟨_, _, e, h⟩ := H3.out j (by omega)
        have := World.block_lt_of_cell? w _ h
        injection e with e; injection e with e1 _ _; subst e1; simp at this; omega
      have hc2 : (wr.setCell ⟨w.heap.size, 2 * j, none⟩ (.int .u64 (x % 4294967296))).cell? ⟨b, o + j, none⟩ = some (.int .u64 x) := by
        rw [World.cell?_setCell_other _ _ _ _ (by intro e'; injection e' with e2 _ _; omega)]; exact hc
      clear hrow hblk hgr hrow2 hblk2 hgr2 hx
      go_wp2_with fail
      go_roundw
      case rel =>
        refine ⟨j + 1, by omega, by go_num, HN.out.1.congr fun t _ => ?_, HN.out.2.1, HN.out.2.2⟩
        by_cases e : t = 2 * j + 1
        · rw [if_pos e, if_pos (by omega), HX.out]; unfold hv; rw [if_neg (by omega), show t / 2 = j by omega]
        · rw [if_neg e]
          by_cases e2 : t = 2 * j
          · rw [if_pos e2, if_pos (by omega), HX.out]; unfold hv; rw [if_pos (by omega), show t / 2 = j by omega]
          · rw [if_neg e2]
            by_cases e3 : t < 2 * j
            · rw [if_pos e3, if_pos (by omega)]
            · rw [if_neg e3, if_neg (by omega)]
      case measure => simp [intOf]; omega
    · obtain rfl : j = m := by omega
      have hrow : RowAt .u64 wr w.heap.size 0 K (hv f) := hrow.congr fun t ht => if_pos (by have := HK.out; omega)
      have hfr := FrA.mk' (Nat.le_refl _) hblk hrow (Nat.le_refl _) hKb
      have hdg : Dig 4294967296 (sz (hv f) K) (hv f) (natFrom f 0 n) := by
        have := dig_sz (B := 4294967296) (f := hv f) (n := 2 * j) (fun i hi => hv_bd (n := j) (fun i hi => by have := HW.out i (by omega); omega) i hi)
        rw [hv_dv, HV.out] at this
        rw [HK.out]; exact this
      have hq := hfr.take (sz_le (hv f) K)
      have htr := Trim3_any _ K K _ wr hfr.read
      have HTR := Lib.hid htr
      have HBL := Lib.hid ((Below.refl w.heap.size w).grown hgr (Nat.le_refl _) fun q hq => by injection hq with hq; omega)
      have HQ := Lib.hid (And.intro hq hdg)
      clear hrow hblk hfr hdg hq htr hgr
      go_wp2_with (go_at_call 134; (with_reducible refine HTR.out.mono ?_); rintro e w3 ⟨rfl, rfl⟩)
      go_ret
      exact ⟨_, rfl, ⟨_, hv f, HQ.out.1, HQ.out.2⟩, HBL.out⟩

end Go.Proofs.Ytdlpemmoobbgnaa
