/- The walks of trellisref02.digits, words. -/
import Derived.Test.YtdlpemmoobbgnaaR06
set_option linter.unusedVariables false
set_option linter.unusedSimpArgs false
namespace Go.Proofs.Ytdlpemmoobbgnaa
open Go.RowKit

theorem FrA.mk' {k : IntKind} {e : TypeId} {w : World} {base b n cap : Nat} {f : Nat → Int} (hb : base ≤ b) (hk : Blk w b cap e) (hr : RowAt k w b 0 n f) (hn : n ≤ cap) (h2 : n ≤ 17592186044416) : FrA k e w base (.slice (some ⟨b, 0, none⟩) n cap) n f :=
  Or.inr ⟨b, cap, rfl, hn, h2, hb, hk, hr⟩

set_option maxHeartbeats 1000000 in
set_option maxRecDepth 100000 in
theorem digits_any (v : Value) (n : Nat) (f : Nat → Int) (w : World) (hn : n ≤ 1099511627776) (hr : RdW w v n f) :
    Calls Try.prog 123 #[v] w fun e w' => ∃ v', e = .returned v' ∧ FrD w' w.heap.size v' (natFrom f 0 n) ∧ Below w.heap.size w w' := by
  obtain ⟨hr, hw⟩ := hr
  obtain ⟨a, cap, rfl, h1, h2, h3⟩ := wd_get hr
  have H3 := Lib.hid h3
  have HW := Lib.hid hw
  clear h3 hr hw
  obtain ⟨K, hK⟩ : ∃ K, K = 4 * n := ⟨_, rfl⟩
  have hKb : K ≤ 17592186044416 := by omega
  have mk : ∀ u : World, (Instr.makeSlice 45 (.int .i64 (4 * (n : Int))) (.int .i64 (4 * (n : Int)))).run Try.prog u =
      .ok (.slice (some ⟨u.heap.size, 0, none⟩) K K) (u.alloc (.cells (madeCells #[.int .i64 0] K) 3)) := by
    rw [show 4 * (n : Int) = (K : Int) by omega]; exact mk_nums K K (Nat.le_refl _) hKb
  have HK := Lib.hid hK
  clear hK
  go_enter Try.func123, Try.ntmps123
  go_wp2_with fail
  have hr0 := (CellsAt.row (f := fun _ => 0) (CellsAt.made w (.int .i64 0) K 3))
  have hk0 := Blk.made w (.int .i64 0) K 3
  have hg0 := World.grownBy_alloc w (.cells (madeCells #[.int .i64 0] K) 3) (some w.heap.size)
  have HR0 := Lib.hid hr0
  have HK0 := Lib.hid hk0
  have HG0 := Lib.hid hg0
  clear hr0 hk0 hg0 mk
  generalize w.alloc (.cells (madeCells #[.int .i64 0] K) 3) = w4 at HR0 HK0 HG0 ⊢
  go_loopw [4] (fun iv wr => ∃ j : Nat, j ≤ n ∧ iv = .int .i64 j ∧ RowAt .i64 wr w.heap.size 0 K (fun t => if t < 4 * j then spl f t else 0) ∧ Blk wr w.heap.size K 3 ∧ w.grownBy wr (some w.heap.size)) (fun iv _ => n - (intOf iv).toNat)
  case atStart => exact ⟨0, by omega, rfl, HR0.out.congr fun i _ => (if_neg (by omega)).symm, HK0.out, HG0.out⟩
  case round =>
    clear HR0 HK0 HG0
    obtain ⟨j, j1, rfl, hrow, hblk, hgr⟩ := hrel
    have HROW := Lib.hid hrow
    have HBLK := Lib.hid hblk
    clear hrow hblk
    by_cases hj : j < n
    · obtain ⟨b, o, rfl, hc⟩ := H3.out j hj
      have hc := hgr.cell hc (by simp; have := World.block_lt_of_cell? w _ hc; simp at this; omega)
      obtain ⟨x, hx⟩ : ∃ x, x = f j := ⟨_, rfl⟩
      obtain ⟨x0, x1⟩ := HW.out j hj
      rw [← hx] at hc x0 x1
      have HX := Lib.hid hx
      clear hx
      go_wp2_with fail
      go_loopw [5, 6] (fun xv kv wr => ∃ k : Nat, k ≤ 4 ∧ kv = .int .i64 k ∧ xv = .int .u64 (x / 65536 ^ k) ∧ RowAt .i64 wr w.heap.size 0 K (fun t => if t < 4 * j + k then spl f t else 0) ∧ Blk wr w.heap.size K 3 ∧ w.grownBy wr (some w.heap.size)) (fun _ kv _ => 4 - (intOf kv).toNat)
      case atStart => exact ⟨0, by omega, rfl, by rw [Int.pow_zero, Int.ediv_one], HROW.out, HBLK.out, hgr⟩
      case round =>
        clear HROW HBLK hgr hc
        obtain ⟨k, k1, rfl, rfl, hrow, hblk, hgr⟩ := hrel
        obtain ⟨s1, s2⟩ := word_step x x0 k
        have s3 := word_le x x0 x1 k
        obtain ⟨y, hy⟩ : ∃ y, y = x / 65536 ^ k := ⟨_, rfl⟩
        rw [← hy] at s1 s2 s3 ⊢
        have HS1 := Lib.hid s1
        have HY := Lib.hid hy
        clear s1 hy
        by_cases hk : k < 4
        · have hsp : Hid (spl f (4 * j + k) = y % 65536) := by show _ = _; rw [spl_at f j k hk, ← HX.out, HY.out]
          have hqK : 4 * j + k < K := by have := HK.out; omega
          obtain ⟨d1, d2⟩ := hrow.get0 (i := 4 * j + k) hqK (x := 0) (if_neg (by omega))
          have hrow2 := hrow.set0 hqK (y % 65536)
          have hblk2 := hblk.set (4 * j + k) (.int .i64 (y % 65536))
          have hgr2 := gb_trans hgr (gb_set wr ⟨w.heap.size, 4 * j + k, none⟩ (.int .i64 (y % 65536)))
          have HN2 := Lib.hid (And.intro hrow2 (And.intro hblk2 hgr2))
          clear hrow hblk hgr hrow2 hblk2 hgr2
          go_wp2_with fail
          go_roundw
          case rel =>
            refine ⟨k + 1, by omega, by go_num, by rw [← HS1.out], HN2.out.1.congr fun t _ => ?_, HN2.out.2.1, HN2.out.2.2⟩
            by_cases e : t = 4 * j + k
            · rw [if_pos e, if_pos (by omega), e, hsp.out]
            · rw [if_neg e]
              by_cases e2 : t < 4 * j + k
              · rw [if_pos e2, if_pos (by omega)]
              · rw [if_neg e2, if_neg (by omega)]
          case measure => simp [intOf]; omega
        · obtain rfl : k = 4 := by omega
          have HN2 := Lib.hid (And.intro hrow (And.intro hblk hgr))
          clear hrow hblk hgr
          go_wp2_with fail
          go_roundw
          case rel => exact ⟨j + 1, by omega, by go_num, HN2.out.1.congr fun t _ => by rw [show 4 * (j + 1) = 4 * j + 4 by omega], HN2.out.2.1, HN2.out.2.2⟩
          case measure => simp [intOf]; omega
    · obtain rfl : j = n := by omega
      have hrow : Hid (RowAt .i64 wr w.heap.size 0 K (spl f)) := HROW.out.congr fun t ht => if_pos (by have := HK.out; omega)
      clear HROW
      go_wp2_with fail
      go_loop [7] (fun kv => ∃ k : Nat, k ≤ K ∧ Hid (sz (spl f) k = sz (spl f) K) ∧ kv = .int .i64 k) (fun kv => (intOf kv).toNat)
      case atStart => exact ⟨K, Nat.le_refl _, rfl, rfl⟩
      case round =>
        obtain ⟨k, k1, k2, rfl⟩ := hrel
        have fin : Hid (sz (spl f) K = k) → ∃ v', Ending.returned (.slice (some ⟨w.heap.size, 0, none⟩) k K) = .returned v' ∧ FrD wr w.heap.size v' (natFrom f 0 j) ∧ Below w.heap.size w wr := fun hk => by
          refine ⟨_, rfl, ⟨k, spl f, FrA.mk' (Nat.le_refl _) HBLK.out (fun i hi => hrow.out i (by omega)) k1 (by omega), ?_⟩, (Below.refl _ _).grown hgr (Nat.le_refl _) fun q hq => by injection hq with hq; omega⟩
          rw [natFrom_dv0, ← hk.out, HK.out]
          exact Dig.split fun i hi => by have := HW.out i hi; omega
        have FIN := Lib.hid fin
        clear fin
        rcases Nat.eq_zero_or_pos k with e | hk
        · subst e
          have hk0 : Hid (sz (spl f) K = 0) := by show _ = _; rw [← k2.out]; rfl
          go_wp2_with fail
          go_ret
          exact FIN.out hk0
        · obtain ⟨x, hx⟩ : ∃ x, x = spl f (k - 1) := ⟨_, rfl⟩
          obtain ⟨q, hq⟩ : ∃ q, q = k - 1 := ⟨_, rfl⟩
          obtain ⟨hc, _⟩ := hrow.out.get0 (i := q) (by omega) (x := x) (by rw [hq, hx])
          have hk' : (0 : Int) < (k : Int) := by omega
          have hq1 : (k : Int) - 1 = (q : Int) := by omega
          have hq2 : q < K := by omega
          have HQ := Lib.hid hq
          have HX := Lib.hid hx
          clear hq hx
          by_cases hz : x = 0
          · have hzb : (x == 0) = true := beq_iff_eq.2 hz
            have HZ := Lib.hid hz
            clear hz
            go_wp2_with fail
            go_round
            case rel =>
              refine ⟨q, by omega, ?_, rfl⟩
              show _ = _
              rw [← k2.out, show k = q + 1 by have := HQ.out; omega]
              show _ = if spl f q = 0 then sz (spl f) q else q + 1
              rw [if_pos (by rw [HQ.out, ← HX.out]; exact HZ.out)]
            case measure => simp [intOf]; omega
          · have hzb : (x == 0) = false := beq_eq_false_iff_ne.2 hz
            have hfin : Hid (sz (spl f) K = k) := by
              show _ = _
              rw [← k2.out, show k = q + 1 by have := HQ.out; omega]
              show (if spl f q = 0 then sz (spl f) q else q + 1) = _
              rw [if_neg (by rw [HQ.out, ← HX.out]; exact hz)]
            clear hz
            go_wp2_with fail
            go_ret
            exact FIN.out hfin

end Go.Proofs.Ytdlpemmoobbgnaa
