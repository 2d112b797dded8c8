import Derived.Test.YtejliecmdkmgiaaGA
import Derived.Test.YtejliecmdkmgiaaGL
import Derived.Deep.DeepCutAuto
import Derived.BigRegion
import Derived.Deep.RegionWith
import Derived.Laws.CopyOwn
set_option linter.unusedVariables false
set_option linter.unusedSimpArgs false
set_option maxHeartbeats 8000000
set_option maxRecDepth 100000
namespace Go.Proofs.Ytejliecmdkmgiaa
open Go.RowKit
theorem natCmp_any (x y : Value) (n m : Nat) (f g : Nat → Int) (w : World) (hx : RdW w x n f) (hy : RdW w y m g) :
    Calls Try.prog 105 #[x, y] w fun e w' => e = .returned (.int .i64 (cmpZ (natFrom f 0 n) (natFrom g 0 m))) ∧ Below w.heap.size w w' := by
  have s1 := size_any x n f w hx.1
  have s2 := size_any y m g w hy.1
  have hf := dig_sz (B := 18446744073709551616) (words_bd hx.2)
  have hg := dig_sz (B := 18446744073709551616) (words_bd hy.2)
  rw [← natFrom_dv0] at hf hg
  obtain ⟨a, cap, rfl, h1, h2, h3⟩ := wd_get hx.1
  obtain ⟨b, cap', rfl, g1, g2, g3⟩ := wd_get hy.1
  have l1 := sz_le f n
  have l2 := sz_le g m
  generalize natFrom f 0 n = N at *
  generalize natFrom g 0 m = M at *
  generalize sz f n = p at *
  generalize sz g m = q at *
  have H3 := Lib.hid h3
  have G3 := Lib.hid g3
  have HF := Lib.hid hf
  have HG := Lib.hid hg
  have S1 := Lib.hid s1
  have S2 := Lib.hid s2
  clear h3 g3 hx hy hf hg s1 s2
  by_cases hnm : p = q
  · subst hnm
    go_enter Try.func105, Try.ntmps105
    go_wp2_with (first
      | (go_at_call 160; (with_reducible refine S1.out.mono ?_); rintro e w' ⟨rfl, rfl⟩)
      | (go_at_call 160; (with_reducible refine S2.out.mono ?_); rintro e w' ⟨rfl, rfl⟩))
    go_loopw [7] (fun kv wr => ∃ k : Nat, k ≤ p ∧ Hid (∀ i, k ≤ i → i < p → f i = g i) ∧ kv = .int .i64 ((k : Int) - 1) ∧ Below w.heap.size w wr) (fun kv _ => (intOf kv + 1).toNat)
    case atStart => exact ⟨p, Nat.le_refl _, fun i h1 h2 => absurd h1 (by omega), rfl, Below.refl _ _⟩
    case round =>
      obtain ⟨k, k1, k2, rfl, hb⟩ := hrel
      rcases Nat.eq_zero_or_pos k with e | hk
      · subst e
        have e : Hid (cmpZ N M = 0) := by
          have : N = M := by rw [← HF.out.val, ← HG.out.val]; exact dv_congr fun i hi => k2.out i (by omega) hi
          show _ = _; unfold cmpZ; rw [if_neg (by omega), if_neg (by omega)]
        go_wp2_with fail
        go_ret
        exact ⟨ret_i64 e.out.symm, hb⟩
      · obtain ⟨j, rfl⟩ : ∃ j, k = j + 1 := ⟨k - 1, by omega⟩
        have hj0 : (0 : Int) ≤ ((j + 1 : Nat) : Int) - 1 := by omega
        have hjn : ((j + 1 : Nat) : Int) - 1 = (j : Int) := by omega
        rw [hjn] at hj0 ⊢
        clear hjn
        obtain ⟨b1, o1, rfl, hc⟩ := H3.out j (by omega)
        obtain ⟨b2, o2, rfl, hd⟩ := G3.out j (by omega)
        obtain ⟨u, hu⟩ : ∃ u, u = f j := ⟨_, rfl⟩
        obtain ⟨v, hv⟩ : ∃ v, v = g j := ⟨_, rfl⟩
        rw [← hu] at hc
        rw [← hv] at hd
        have hc := cell_stays hb hc
        have hd := cell_stays hb hd
        have HU := Lib.hid hu
        have HV := Lib.hid hv
        clear hu hv
        rcases Int.lt_trichotomy u v with h | h | h
        · have e : Hid (cmpZ N M = -1) := by
            have : N < M := by rw [← HF.out.val, ← HG.out.val]; exact dv_lt (by omega) HF.out.bd HG.out.bd (k := j) (by omega) (fun i h1 h2 => k2.out i (by omega) h2) (by rw [← HU.out, ← HV.out]; exact h)
            show _ = _; unfold cmpZ; rw [if_pos this]
          go_wp2_with fail
          go_region
          all_goals
            go_wp2_with fail
            go_ret
            exact ⟨ret_i64 e.out.symm, hb.drew⟩
        · subst h
          go_wp2_with fail
          go_region
          all_goals
            go_wp2_with fail
            go_region
            all_goals
              go_wp2_with fail
              go_roundw
              case rel =>
                refine ⟨j, by omega, fun i h1 h2 => ?_, by go_num, hb.drew.drew⟩
                by_cases e : i = j
                · subst e; rw [← HU.out, ← HV.out]
                · exact k2.out i (by omega) h2
              case measure => simp [intOf]
        · have e : Hid (cmpZ N M = 1) := by
            have : M < N := by rw [← HF.out.val, ← HG.out.val]; exact dv_lt (by omega) HG.out.bd HF.out.bd (k := j) (by omega) (fun i h1 h2 => (k2.out i (by omega) h2).symm) (by rw [← HU.out, ← HV.out]; exact h)
            show _ = _; unfold cmpZ; rw [if_neg (by omega), if_pos this]
          go_wp2_with fail
          go_region
          all_goals
            go_wp2_with fail
            go_region
            all_goals
              go_wp2_with fail
              go_ret
              exact ⟨ret_i64 e.out.symm, hb.drew.drew⟩
  · have hne : ((p : Int) != q) = true := by rw [bne_iff_ne]; omega
    by_cases hlt : p < q
    · have e : Hid (cmpZ N M = -1) := by show _ = _; unfold cmpZ; rw [if_pos (HF.out.lt_of_len (by omega) HG.out hlt)]
      go_enter Try.func105, Try.ntmps105
      go_wp2_with (first
        | (go_at_call 160; (with_reducible refine S1.out.mono ?_); rintro e w' ⟨rfl, rfl⟩)
        | (go_at_call 160; (with_reducible refine S2.out.mono ?_); rintro e w' ⟨rfl, rfl⟩))
      go_ret
      exact ⟨ret_i64 e.out.symm, Below.refl _ _⟩
    · have e : Hid (cmpZ N M = 1) := by
        have := HG.out.lt_of_len (by omega) HF.out (by omega)
        show _ = _; unfold cmpZ; rw [if_neg (by omega), if_pos this]
      go_enter Try.func105, Try.ntmps105
      go_wp2_with (first
        | (go_at_call 160; (with_reducible refine S1.out.mono ?_); rintro e w' ⟨rfl, rfl⟩)
        | (go_at_call 160; (with_reducible refine S2.out.mono ?_); rintro e w' ⟨rfl, rfl⟩))
      go_ret
      exact ⟨ret_i64 e.out.symm, Below.refl _ _⟩
theorem natBitLen_any (x : Value) (n : Nat) (f : Nat → Int) (w : World) (hx : RdW w x n f) :
    Calls Try.prog 109 #[x] w fun e w' => ∃ L : Int, e = .returned (.int .i64 L) ∧ 0 ≤ L ∧ (L = 0 ↔ natFrom f 0 n = 0) ∧ w = w' := by
  have s1 := size_any x n f w hx.1
  have hf := dig_sz (B := 18446744073709551616) (words_bd hx.2)
  rw [← natFrom_dv0] at hf
  obtain ⟨a, cap, rfl, h1, h2, h3⟩ := wd_get hx.1
  have l1 := sz_le f n
  generalize natFrom f 0 n = N at *
  generalize sz f n = p at *
  have S1 := Lib.hid s1
  clear s1
  rcases Nat.eq_zero_or_pos p with e | hp
  · subst e
    have hz := (hf.zero_iff (by omega)).1 rfl
    clear hx hf h3
    go_enter Try.func109, Try.ntmps109
    go_wp2_with (go_at_call 160; (with_reducible refine S1.out.mono ?_); rintro e w' ⟨rfl, rfl⟩)
    go_ret
    exact ⟨_, rfl, by omega, by omega, rfl⟩
  · obtain ⟨q, rfl⟩ : ∃ q, p = q + 1 := ⟨p - 1, by omega⟩
    have hz := hf.zero_iff (by omega)
    have htop := hf.top hp
    have hb := hf.bd q (by omega)
    rw [Nat.add_sub_cancel] at htop
    obtain ⟨b, o, rfl, hc⟩ := h3 q (by omega)
    obtain ⟨u, hu⟩ : ∃ u, u = f q := ⟨_, rfl⟩
    rw [← hu] at hc htop hb
    have hl := Len64_any u w (by omega) (by omega)
    obtain ⟨l1', -, -⟩ := num.bitLen_bounds 64 u.toNat (by omega) (by omega) (by omega)
    have l2' := Lib.bitLen_le u.toNat 64 (by omega) (by omega)
    generalize Lib.bitLen u.toNat = L at *
    have e1 : ((q : Int) + 1 == 0) = false := beq_eq_false_iff_ne.2 (by omega)
    have HL := Lib.hid hl
    clear hx hf h3 hu hl
    go_enter Try.func109, Try.ntmps109
    go_wp2_with (first
      | (go_at_call 160; (with_reducible refine S1.out.mono ?_); rintro e w' ⟨rfl, rfl⟩)
      | (go_at_call 163; (with_reducible refine HL.out.mono ?_); rintro e w' ⟨rfl, rfl⟩))
    go_ret
    exact ⟨_, rfl, by omega, by omega, rfl⟩
end Go.Proofs.Ytejliecmdkmgiaa
namespace Go.Proofs.Ytejliecmdkmgiaa
open Go.RowKit
theorem gcell {w wr : World} {d : Nat} (hg : w.grownBy wr (some d)) (hd : w.heap.size ≤ d) {b o : Nat} {v : Value} (hc : w.cell? ⟨b, o, none⟩ = some v) : wr.cell? ⟨b, o, none⟩ = some v :=
  hg.cell hc (fun e => by have h1 : b < w.heap.size := World.block_lt_of_cell? _ _ hc; have h2 : b = d := Option.some.inj e; omega)
theorem wb_q {X Y : Nat → Int} {i : Nat} (x0 : 0 ≤ X i) (x1 : X i < 18446744073709551616) (y0 : 0 ≤ Y i) (y1 : Y i < 18446744073709551616) : wb X Y (i + 1) = -((X i - Y i - wb X Y i) / 18446744073709551616) := by
  have := wb_bd X Y i
  show (if X i < Y i + wb X Y i then (1 : Int) else 0) = _
  split <;> omega
theorem fr_sized {w : World} {base b n : Nat} {F : Nat → Int} {N : Int} (hB : Blk w b n 62) (hR : RowAt .u64 w b 0 n F) (hb : base ≤ b) (hn : n ≤ 17592186044416) (hF : ∀ i, i < n → 0 ≤ F i ∧ F i < 18446744073709551616) (hN : dv 18446744073709551616 F n = N) :
    FrN w base (.slice (some ⟨b, 0, none⟩) (sz F n) n) N :=
  ⟨sz F n, F, Or.inr ⟨b, n, rfl, sz_le F n, by have := sz_le F n; omega, hb, hB, fun i hi => hR i (by have := sz_le F n; omega)⟩, by rw [← hN]; exact dig_sz hF⟩
theorem row_rd {k : IntKind} {w : World} {b n : Nat} {F : Nat → Int} (hR : RowAt k w b 0 n F) (hn : n ≤ 17592186044416) : RdA k w (.slice (some ⟨b, 0, none⟩) n n) n F :=
  ⟨_, n, rfl, Nat.le_refl _, hn, fun _ => ⟨b, 0, rfl, fun i hi => (hR i hi).1⟩⟩
theorem natAdd_any (x y : Value) (n m : Nat) (f g : Nat → Int) (w : World) (hn : n ≤ 1099511627776) (hm : m ≤ 1099511627776) (hx : RdW w x n f) (hy : RdW w y m g) :
    Calls Try.prog 158 #[x, y] w fun e w' => ∃ v, e = .returned v ∧ FrN w' w.heap.size v (natFrom f 0 n + natFrom g 0 m) ∧ Below w.heap.size w w' := by
  obtain ⟨S, hS⟩ : ∃ S, S = natFrom f 0 n + natFrom g 0 m := ⟨_, rfl⟩
  rw [← hS]
  have s1 := size_any x n f w hx.1
  have s2 := size_any y m g w hy.1
  have HX := Lib.hid hx
  have HY := Lib.hid hy
  have HS := Lib.hid hS
  obtain ⟨ax, cx, rfl, -⟩ := hx.1
  obtain ⟨ay, cy, rfl, -⟩ := hy.1
  obtain ⟨p, hp⟩ : ∃ p, p = sz f n := ⟨_, rfl⟩
  obtain ⟨q, hq⟩ : ∃ q, q = sz g m := ⟨_, rfl⟩
  rw [← hp] at s1
  rw [← hq] at s2
  have S1 := Lib.hid s1
  have S2 := Lib.hid s2
  have HP := Lib.hid hp
  have HQ := Lib.hid hq
  clear hx hy hS s1 s2 hp hq
  go_enter Try.func158, Try.ntmps158
  go_upto_if 15 with (first
      | (go_at_call 160; (with_reducible refine S1.out.mono ?_); rintro e w' ⟨rfl, rfl⟩)
      | (go_at_call 160; (with_reducible refine S2.out.mono ?_); rintro e w' ⟨rfl, rfl⟩))
  go_cut [0, 1] (fun va vb wx => w = wx ∧ ∃ (n' m' : Nat) (a' b' : Option Addr) (ca cb : Nat) (f' g' : Nat → Int), va = .slice a' n' ca ∧ vb = .slice b' m' cb ∧ n' ≤ 1099511627776 ∧ m' ≤ 1099511627776 ∧ RdW w va n' f' ∧ RdW w vb m' g' ∧ sz g' m' ≤ sz f' n' ∧ S = natFrom f' 0 n' + natFrom g' 0 m')
  case first =>
    by_cases h : p < q
    · go_wp2_with fail
      go_meet
      exact ⟨rfl, m, n, _, _, _, _, g, f, rfl, rfl, hm, hn, HY.out, HX.out, by rw [← HP.out, ← HQ.out]; omega, by rw [HS.out, Int.add_comm]⟩
    · go_wp2_with fail
      go_meet
      exact ⟨rfl, n, m, _, _, _, _, f, g, rfl, rfl, hn, hm, HX.out, HY.out, by rw [← HP.out, ← HQ.out]; omega, HS.out⟩
  case rest =>
    obtain ⟨rfl, n', m', a', b', ca, cb, f', g', rfl, rfl, hn', hm', hx, hy, hle, hS⟩ := hcut
    clear S1 S2 HP HQ HS HX HY hn hm
    have s1 := size_any _ n' f' w hx.1
    have s2 := size_any _ m' g' w hy.1
    have hfw := words_bd hx.2
    have hgw := words_bd hy.2
    have hd1 := dig_sz (B := 18446744073709551616) hfw
    have hd2 := dig_sz (B := 18446744073709551616) hgw
    rw [← natFrom_dv0] at hd1 hd2
    obtain ⟨_, _, e1, h1, h2, h3⟩ := wd_get hx.1
    obtain ⟨_, _, e2, g1, g2, g3⟩ := wd_get hy.1
    simp only [Value.slice.injEq, true_and] at e1 e2
    obtain ⟨rfl, rfl⟩ := e1
    obtain ⟨rfl, rfl⟩ := e2
    have l1 := sz_le f' n'
    have l2 := sz_le g' m'
    obtain ⟨p0, hp⟩ : ∃ p0, p0 = sz f' n' := ⟨_, rfl⟩
    obtain ⟨q0, hq⟩ : ∃ q0, q0 = sz g' m' := ⟨_, rfl⟩
    rw [← hp] at s1 hd1 l1 hle
    rw [← hq] at s2 hd2 l2 hle
    have hpb : p0 ≤ 1099511627776 := by omega
    have mk : ∀ u : World, (Instr.makeSlice 47 (.int .i64 ((p0 : Int) + 1)) (.int .i64 ((p0 : Int) + 1))).run Try.prog u =
        .ok (.slice (some ⟨u.heap.size, 0, none⟩) (p0 + 1) (p0 + 1)) (u.alloc (.cells (madeCells #[.int .u64 0] (p0 + 1)) 62)) := by
      rw [show (p0 : Int) + 1 = ((p0 + 1 : Nat) : Int) by omega]; exact mk_words (p0 + 1) (by omega)
    have hval : dv 18446744073709551616 f' p0 + dv 18446744073709551616 (zw g' q0) p0 = S := by rw [zw_dv hle, hd1.val, hd2.val, hS]
    have hYb : ∀ i, i < p0 → 0 ≤ zw g' q0 i ∧ zw g' q0 i < 18446744073709551616 := fun i _ => zw_bd (by omega) hd2.bd i
    have hXb : ∀ i, i < p0 → 0 ≤ f' i ∧ f' i < 18446744073709551616 := hd1.bd
    have H3 := Lib.hid h3
    have G3 := Lib.hid g3
    have S1 := Lib.hid s1
    have S2 := Lib.hid s2
    have HV := Lib.hid hval
    have HXB := Lib.hid hXb
    have HYB := Lib.hid hYb
    clear h3 g3 s1 s2 hval hXb hYb hx hy hS hd1 hd2 hfw hgw hp hq
    go_wp2_with (first
      | (go_at_call 160; (with_reducible refine S1.out.mono ?_); rintro e w' ⟨rfl, rfl⟩)
      | (go_at_call 160; (with_reducible refine S2.out.mono ?_); rintro e w' ⟨rfl, rfl⟩))
    have hr0 := (CellsAt.row (f := fun _ => 0) (CellsAt.made w (.int .u64 0) (p0 + 1) 62))
    have hk0 := Blk.made w (.int .u64 0) (p0 + 1) 62
    have hg0 := World.grownBy_alloc w (.cells (madeCells #[.int .u64 0] (p0 + 1)) 62) (some w.heap.size)
    have HR0 := Lib.hid hr0
    have HK0 := Lib.hid hk0
    have HG0 := Lib.hid hg0
    clear hr0 hk0 hg0 mk
    generalize w.alloc (.cells (madeCells #[.int .u64 0] (p0 + 1)) 62) = w4 at HR0 HK0 HG0 ⊢
    go_loopw [8, 26] (fun cv iv wr => ∃ j : Nat, j ≤ p0 ∧ iv = .int .i64 j ∧ cv = .int .u64 (wc f' (zw g' q0) j) ∧ RowAt .u64 wr w.heap.size 0 (p0 + 1) (fun i => if i < j then wd f' (zw g' q0) i else 0) ∧ Blk wr w.heap.size (p0 + 1) 62 ∧ w.grownBy wr (some w.heap.size)) (fun _ iv _ => p0 - (intOf iv).toNat)
    case atStart => exact ⟨0, Nat.zero_le _, rfl, rfl, HR0.out.congr fun i _ => (if_neg (by omega)).symm, HK0.out, HG0.out⟩
    case round =>
      clear HR0 HG0 HK0
      obtain ⟨j, j1, rfl, rfl, hrow, hblk, hgr⟩ := hrel
      obtain ⟨c0, c1⟩ := wc_bd (X := f') (Y := zw g' q0) j (fun k hk => HXB.out k (by omega)) (fun k hk => HYB.out k (by omega))
      obtain ⟨c, hc⟩ : ∃ c, c = wc f' (zw g' q0) j := ⟨_, rfl⟩
      rw [← hc] at c0 c1 ⊢
      have HC := Lib.hid hc
      clear hc
      by_cases hj : j < p0
      · obtain ⟨d1, d2⟩ := hrow.get0 (i := j) (by omega) (x := 0) (if_neg (by omega))
        obtain ⟨b1, o1, rfl, hcx⟩ := H3.out j (by omega)
        have hcx := gcell hgr (Nat.le_refl _) hcx
        obtain ⟨x0, x1⟩ := HXB.out j hj
        obtain ⟨y0, y1⟩ := HYB.out j hj
        have hwd : Hid (wd f' (zw g' q0) j = (f' j + zw g' q0 j + c) % 18446744073709551616) := by show _ = _; rw [HC.out]; rfl
        have hwc : Hid (wc f' (zw g' q0) (j + 1) = (f' j + zw g' q0 j + c) / 18446744073709551616) := by show _ = _; rw [HC.out]; rfl
        obtain ⟨xj, hxj⟩ : ∃ xj, xj = f' j := ⟨_, rfl⟩
        rw [← hxj] at hcx x0 x1 hwd hwc
        have HROW := Lib.hid hrow
        have HBLK := Lib.hid hblk
        have HGR := Lib.hid hgr
        by_cases hq : j < q0
        · obtain ⟨b2, o2, rfl, hcy⟩ := G3.out j (by omega)
          have hcy := gcell hgr (Nat.le_refl _) hcy
          have hyz : Hid (zw g' q0 j = g' j) := if_pos hq
          rw [hyz.out] at y0 y1 hwd hwc
          obtain ⟨yj, hyj⟩ : ∃ yj, yj = g' j := ⟨_, rfl⟩
          rw [← hyj] at hcy y0 y1 hwd hwc
          clear hxj hyj hrow hblk hgr
          go_wp2_with (simp only [add64 xj yj c x0 y0 c0 c1])
          go_roundw
          case rel =>
            refine ⟨j + 1, by omega, by go_num, by rw [hwc.out], (HROW.out.set0 (by omega) _).congr fun i _ => ?_, HBLK.out.set _ _, gb_trans HGR.out (gb_set _ _ _)⟩
            by_cases e : i = j
            · rw [if_pos e, if_pos (by omega), e, hwd.out]
            · rw [if_neg e]
              by_cases e2 : i < j
              · rw [if_pos e2, if_pos (by omega)]
              · rw [if_neg e2, if_neg (by omega)]
          case measure => simp [intOf]; omega
        · have hyz : Hid (zw g' q0 j = 0) := if_neg hq
          rw [hyz.out] at y0 y1 hwd hwc
          clear hxj hrow hblk hgr
          go_wp2_with (simp only [add64 xj 0 c x0 y0 c0 c1])
          go_roundw
          case rel =>
            refine ⟨j + 1, by omega, by go_num, by rw [hwc.out]; simp, (HROW.out.set0 (by omega) _).congr fun i _ => ?_, HBLK.out.set _ _, gb_trans HGR.out (gb_set _ _ _)⟩
            by_cases e : i = j
            · rw [if_pos e, if_pos (by omega), e, hwd.out]; simp
            · rw [if_neg e]
              by_cases e2 : i < j
              · rw [if_pos e2, if_pos (by omega)]
              · rw [if_neg e2, if_neg (by omega)]
          case measure => simp [intOf]; omega
      · obtain rfl : j = p0 := by omega
        obtain ⟨d1, d2⟩ := hrow.get0 (i := j) (by omega) (x := 0) (if_neg (by omega))
        have hr5 := hrow.set0 (j := j) (by omega) c
        have hk5 := hblk.set j (.int .u64 c)
        have hg5 := gb_trans hgr (gb_set wr ⟨w.heap.size, j, none⟩ (.int .u64 c))
        have hd : ∀ i, i < j + 1 → 0 ≤ (if i = j then c else if i < j then wd f' (zw g' q0) i else 0) ∧ (if i = j then c else if i < j then wd f' (zw g' q0) i else 0) < 18446744073709551616 := fun i _ => by
          have := wd_bd f' (zw g' q0) i
          split
          · omega
          · split <;> omega
        have hsum : dv 18446744073709551616 (fun i => if i = j then c else if i < j then wd f' (zw g' q0) i else 0) (j + 1) = S := by
          have h1 := wc_dv f' (zw g' q0) j
          rw [HV.out, ← HC.out] at h1
          rw [← h1]
          simp only [dv, if_true]
          rw [dv_congr (g := wd f' (zw g' q0)) (fun i hi => by rw [if_neg (by omega), if_pos hi])]
        have hb5 : Below w.heap.size w (wr.setCell ⟨w.heap.size, j, none⟩ (.int .u64 c)) := (Below.refl _ w).grown hg5 (Nat.le_refl _) (fun k hk => by injection hk with hk; omega)
        have hsz := size_any _ (j + 1) _ _ (row_rd hr5 (by omega))
        have hfr := fr_sized hk5 hr5 (Nat.le_refl _) (by omega) hd hsum
        generalize (fun i => if i = j then c else if i < j then wd f' (zw g' q0) i else 0) = F at *
        have hle2 := sz_le F (j + 1)
        generalize sz F (j + 1) = z at *
        have HSZ := Lib.hid hsz
        have HFR := Lib.hid hfr
        have HB5 := Lib.hid hb5
        clear hsz hfr hb5 hr5 hk5 hg5 hd hsum hrow hblk hgr
        go_wp2_with (go_at_call 160; (with_reducible refine HSZ.out.mono ?_); rintro e w' ⟨rfl, rfl⟩)
        go_ret
        exact ⟨_, rfl, HFR.out, HB5.out⟩
theorem natSub_any (x y : Value) (n m : Nat) (f g : Nat → Int) (w : World) (hn : n ≤ 1099511627776) (hm : m ≤ 1099511627776) (hge : natFrom g 0 m ≤ natFrom f 0 n) (hx : RdW w x n f) (hy : RdW w y m g) :
    Calls Try.prog 159 #[x, y] w fun e w' => ∃ v, e = .returned (.tuple #[v, .int .i64 0]) ∧ FrN w' w.heap.size v (natFrom f 0 n - natFrom g 0 m) ∧ Below w.heap.size w w' := by
  have hcmp := natCmp_any x y n m f g w hx hy
  have hcc : 0 ≤ cmpZ (natFrom f 0 n) (natFrom g 0 m) := by unfold cmpZ; rw [if_neg (by omega)]; split <;> omega
  generalize cmpZ (natFrom f 0 n) (natFrom g 0 m) = cc at hcmp hcc
  have HCMP := Lib.hid hcmp
  have HX := Lib.hid hx
  have HY := Lib.hid hy
  have HGE := Lib.hid hge
  obtain ⟨ax, cx, rfl, -⟩ := hx.1
  obtain ⟨ay, cy, rfl, -⟩ := hy.1
  clear hcmp hx hy hge
  go_enter Try.func159, Try.ntmps159
  go_wp2_with fail
  (with_reducible refine HCMP.out.mono ?_)
  rintro e w1 ⟨rfl, hb1⟩
  have hx := HX.out.below hb1
  have hy := HY.out.below hb1
  have HB1 := Lib.hid hb1
  have HGE := HGE
  clear HCMP HX HY hb1
  have s1 := size_any _ n f w1 hx.1
  have s2 := size_any _ m g w1 hy.1
  have hfw := words_bd hx.2
  have hgw := words_bd hy.2
  have hd1 := dig_sz (B := 18446744073709551616) hfw
  have hd2 := dig_sz (B := 18446744073709551616) hgw
  rw [← natFrom_dv0] at hd1 hd2
  obtain ⟨_, _, e1, h1, h2, h3⟩ := wd_get hx.1
  obtain ⟨_, _, e2, g1, g2, g3⟩ := wd_get hy.1
  simp only [Value.slice.injEq, true_and] at e1 e2
  obtain ⟨rfl, rfl⟩ := e1
  obtain ⟨rfl, rfl⟩ := e2
  have l1 := sz_le f n
  have l2 := sz_le g m
  obtain ⟨p0, hp⟩ : ∃ p0, p0 = sz f n := ⟨_, rfl⟩
  obtain ⟨q0, hq⟩ : ∃ q0, q0 = sz g m := ⟨_, rfl⟩
  rw [← hp] at s1 hd1 l1
  rw [← hq] at s2 hd2 l2
  have hpb : p0 ≤ 1099511627776 := by omega
  have hle : q0 ≤ p0 := hd2.len (by omega) (Int.lt_of_le_of_lt HGE.out (hd1.lt (by omega)))
  have mk := mk_words p0 (by omega)
  have hYb : ∀ i, i < p0 → 0 ≤ zw g q0 i ∧ zw g q0 i < 18446744073709551616 := fun i _ => zw_bd (by omega) hd2.bd i
  have hXb : ∀ i, i < p0 → 0 ≤ f i ∧ f i < 18446744073709551616 := hd1.bd
  have hval : dv 18446744073709551616 (we f (zw g q0)) p0 = natFrom f 0 n - natFrom g 0 m := by
    rw [we_val hXb hYb (by rw [zw_dv hle, hd1.val, hd2.val]; exact HGE.out), zw_dv hle, hd1.val, hd2.val]
  have H3 := Lib.hid h3
  have G3 := Lib.hid g3
  have S1 := Lib.hid s1
  have S2 := Lib.hid s2
  have HV := Lib.hid hval
  have HXB := Lib.hid hXb
  have HYB := Lib.hid hYb
  clear h3 g3 s1 s2 hval hXb hYb hx hy hd1 hd2 hfw hgw hp hq HGE
  go_wp2_with (first
    | (go_at_call 160; (with_reducible refine S1.out.mono ?_); rintro e w' ⟨rfl, rfl⟩)
    | (go_at_call 160; (with_reducible refine S2.out.mono ?_); rintro e w' ⟨rfl, rfl⟩))
  have hr0 := (CellsAt.row (f := fun _ => 0) (CellsAt.made w1 (.int .u64 0) p0 62))
  have hk0 := Blk.made w1 (.int .u64 0) p0 62
  have hg0 := World.grownBy_alloc w1 (.cells (madeCells #[.int .u64 0] p0) 62) (some w1.heap.size)
  have HR0 := Lib.hid hr0
  have HK0 := Lib.hid hk0
  have HG0 := Lib.hid hg0
  clear hr0 hk0 hg0 mk
  generalize w1.alloc (.cells (madeCells #[.int .u64 0] p0) 62) = w4 at HR0 HK0 HG0 ⊢
  go_loopw [9, 23] (fun cv iv wr => ∃ j : Nat, j ≤ p0 ∧ iv = .int .i64 j ∧ cv = .int .u64 (wb f (zw g q0) j) ∧ RowAt .u64 wr w1.heap.size 0 p0 (fun i => if i < j then we f (zw g q0) i else 0) ∧ Blk wr w1.heap.size p0 62 ∧ w1.grownBy wr (some w1.heap.size)) (fun _ iv _ => p0 - (intOf iv).toNat)
  case atStart => exact ⟨0, Nat.zero_le _, rfl, rfl, HR0.out.congr fun i _ => (if_neg (by omega)).symm, HK0.out, HG0.out⟩
  case round =>
    clear HR0 HG0 HK0
    obtain ⟨j, j1, rfl, rfl, hrow, hblk, hgr⟩ := hrel
    obtain ⟨c0, c1⟩ := wb_bd f (zw g q0) j
    obtain ⟨c, hc⟩ : ∃ c, c = wb f (zw g q0) j := ⟨_, rfl⟩
    rw [← hc] at c0 c1 ⊢
    have HC := Lib.hid hc
    clear hc
    by_cases hj : j < p0
    · obtain ⟨d1, d2⟩ := hrow.get0 (i := j) (by omega) (x := 0) (if_neg (by omega))
      obtain ⟨b1, o1, rfl, hcx⟩ := H3.out j (by omega)
      have hcx := gcell hgr (Nat.le_refl _) hcx
      obtain ⟨x0, x1⟩ := HXB.out j hj
      obtain ⟨y0, y1⟩ := HYB.out j hj
      have hwd : Hid (we f (zw g q0) j = (f j - zw g q0 j - c) % 18446744073709551616) := by show _ = _; rw [HC.out]; rfl
      have hwc : Hid (wb f (zw g q0) (j + 1) = -((f j - zw g q0 j - c) / 18446744073709551616)) := by show _ = _; rw [HC.out]; exact wb_q x0 x1 y0 y1
      obtain ⟨xj, hxj⟩ : ∃ xj, xj = f j := ⟨_, rfl⟩
      rw [← hxj] at hcx x0 x1 hwd hwc
      have HROW := Lib.hid hrow
      have HBLK := Lib.hid hblk
      have HGR := Lib.hid hgr
      by_cases hq : j < q0
      · obtain ⟨b2, o2, rfl, hcy⟩ := G3.out j (by omega)
        have hcy := gcell hgr (Nat.le_refl _) hcy
        have hyz : Hid (zw g q0 j = g j) := if_pos hq
        rw [hyz.out] at y0 y1 hwd hwc
        obtain ⟨yj, hyj⟩ : ∃ yj, yj = g j := ⟨_, rfl⟩
        rw [← hyj] at hcy y0 y1 hwd hwc
        clear hxj hyj hrow hblk hgr
        go_wp2_with (simp only [sub64 xj yj c x0 x1 y0 y1 c0 c1])
        go_roundw
        case rel =>
          refine ⟨j + 1, by omega, by go_num, by rw [hwc.out], (HROW.out.set0 (by omega) _).congr fun i _ => ?_, HBLK.out.set _ _, gb_trans HGR.out (gb_set _ _ _)⟩
          by_cases e : i = j
          · rw [if_pos e, if_pos (by omega), e, hwd.out]
          · rw [if_neg e]
            by_cases e2 : i < j
            · rw [if_pos e2, if_pos (by omega)]
            · rw [if_neg e2, if_neg (by omega)]
        case measure => simp [intOf]; omega
      · have hyz : Hid (zw g q0 j = 0) := if_neg hq
        rw [hyz.out] at y0 y1 hwd hwc
        clear hxj hrow hblk hgr
        go_wp2_with (simp only [sub64 xj 0 c x0 x1 y0 y1 c0 c1])
        go_roundw
        case rel =>
          refine ⟨j + 1, by omega, by go_num, by rw [hwc.out]; simp, (HROW.out.set0 (by omega) _).congr fun i _ => ?_, HBLK.out.set _ _, gb_trans HGR.out (gb_set _ _ _)⟩
          by_cases e : i = j
          · rw [if_pos e, if_pos (by omega), e, hwd.out]; simp
          · rw [if_neg e]
            by_cases e2 : i < j
            · rw [if_pos e2, if_pos (by omega)]
            · rw [if_neg e2, if_neg (by omega)]
        case measure => simp [intOf]; omega
    · obtain rfl : j = p0 := by omega
      have hd : ∀ i, i < j → 0 ≤ (if i < j then we f (zw g q0) i else 0) ∧ (if i < j then we f (zw g q0) i else 0) < 18446744073709551616 := fun i _ => by
        have := we_bd f (zw g q0) i
        split <;> omega
      have hsum : dv 18446744073709551616 (fun i => if i < j then we f (zw g q0) i else 0) j = natFrom f 0 n - natFrom g 0 m := by
        rw [← HV.out]; exact dv_congr fun i hi => if_pos hi
      have hb5 : Below w1.heap.size w1 wr := (Below.refl _ w1).grown hgr (Nat.le_refl _) (fun k hk => by injection hk with hk; omega)
      have hsz := size_any _ j _ _ (row_rd hrow (by omega))
      have hfr := fr_sized hblk hrow HB1.out.size (by omega) hd hsum
      generalize (fun i => if i < j then we f (zw g q0) i else 0) = F at *
      have hle2 := sz_le F j
      generalize sz F j = z at *
      have HSZ := Lib.hid hsz
      have HFR := Lib.hid hfr
      have HB5 := Lib.hid (HB1.out.trans (hb5.mono HB1.out.size))
      clear hsz hfr hb5 hd hsum hrow hblk hgr
      go_wp2_with (go_at_call 160; (with_reducible refine HSZ.out.mono ?_); rintro e w' ⟨rfl, rfl⟩)
      go_ret2
      exact ⟨_, rfl, HFR.out, HB5.out⟩
end Go.Proofs.Ytejliecmdkmgiaa
namespace Go.Proofs.Ytejliecmdkmgiaa
theorem mul_le_l {a b c : Int} (h : a ≤ b) (hc : 0 ≤ c) : c * a ≤ c * b := Int.mul_le_mul_of_nonneg_left h hc
theorem mul_le_r {a b c : Int} (h : a ≤ b) (hc : 0 ≤ c) : a * c ≤ b * c := Int.mul_le_mul_of_nonneg_right h hc
theorem lt_of_mul_lt {a b c : Int} (hc : 0 < c) (h : a * c < b * c) : a < b := Int.lt_of_mul_lt_mul_right h (by omega)
def Guess (T W d : Int) : Prop := 0 ≤ d ∧ d ≤ 18446744073709551615 ∧ d * W ≤ T ∧ (T < (d + 1) * W ∨ d = 18446744073709551615)
theorem Guess.ok {T W d U V K u v : Int} (h : Guess T W d) (hK : 0 < K) (hU : U = T * K + u) (hu : 0 ≤ u ∧ u < K) (hV : V = W * K + v) (hv : 0 ≤ v ∧ v < K) (hW : 18446744073709551616 ≤ W)
    (hUV : U < V * 18446744073709551616) : U / V ≤ d ∧ d ≤ U / V + 1 ∧ 0 ≤ U / V := by
  obtain ⟨h0, h1, h2, h3⟩ := h
  have hWK : 0 < W * K := Int.mul_pos (by omega) hK
  have hVp : 0 < V := by omega
  have hT0 : 0 ≤ T := Int.le_trans (Int.mul_nonneg h0 (by omega)) h2
  have hU0 : 0 ≤ U := by have := Int.mul_nonneg hT0 (show 0 ≤ K by omega); omega
  obtain ⟨q, hq⟩ : ∃ q, q = U / V := ⟨_, rfl⟩
  rw [← hq]
  have q0 : 0 ≤ q := by rw [hq]; exact Int.ediv_nonneg hU0 (by omega)
  have q1 : q * V ≤ U := by rw [hq]; exact Int.ediv_mul_le _ (by omega)
  have q2 : U < (q + 1) * V := by rw [hq]; exact Int.lt_ediv_add_one_mul_self _ hVp
  have q3 : q ≤ 18446744073709551615 := by
    refine Int.not_lt.1 fun hgt => ?_
    have := mul_le_r (show 18446744073709551616 ≤ q by omega) (show 0 ≤ V by omega)
    rw [Int.mul_comm V] at hUV; omega
  have q4 : q * W ≤ T := by
    have a1 : q * (W * K) ≤ q * V := mul_le_l (by omega) q0
    have a2 : (q * W) * K < (T + 1) * K := by rw [Int.mul_assoc, Int.add_mul]; omega
    have := lt_of_mul_lt hK a2
    omega
  refine ⟨?_, ?_, q0⟩
  · rcases h3 with h3 | h3
    · refine Int.not_lt.1 fun hgt => ?_
      have := mul_le_r (show d + 1 ≤ q by omega) (show 0 ≤ W by omega)
      omega
    · omega
  · refine Int.not_lt.1 fun hgt => ?_
    have a1 : (q + 1) * V ≤ (d - 1) * V := mul_le_r (by omega) (by omega)
    have a2 : (d - 1) * V ≤ (d - 1) * ((W + 1) * K) := mul_le_l (by rw [Int.add_mul]; omega) (by omega)
    have a3 : (d * W) * K ≤ T * K := mul_le_r h2 (by omega)
    have a4 : (d * W) * K < ((d - 1) * (W + 1)) * K := by rw [Int.mul_assoc (d - 1)]; omega
    have a5 := lt_of_mul_lt hK a4
    have a6 : (d - 1) * (W + 1) = d * W + d - W - 1 := by grind
    omega
structure Srch (u2 u1 u0 v1 v0 d rest : Int) : Prop where
  d0 : 0 ≤ d
  d1 : d ≤ 18446744073709551615
  re : rest = u2 * 18446744073709551616 + u1 - d * v1
  r0 : 0 ≤ rest
  above : (u2 * 18446744073709551616 + u1) * 18446744073709551616 + u0 < (d + 1) * (v1 * 18446744073709551616 + v0) ∨ d = 18446744073709551615
theorem Srch.meets {u2 u1 u0 v1 v0 d rest : Int} (h : Srch u2 u1 u0 v1 v0 d rest) (he : d * v0 ≤ rest * 18446744073709551616 + u0) : Guess ((u2 * 18446744073709551616 + u1) * 18446744073709551616 + u0) (v1 * 18446744073709551616 + v0) d := by
  refine ⟨h.d0, h.d1, ?_, h.above⟩
  have := h.re
  grind
theorem Srch.over {u2 u1 u0 v1 v0 d rest : Int} (h : Srch u2 u1 u0 v1 v0 d rest) (hu : 0 ≤ u0) (hv : 0 ≤ v0 ∧ v0 < 18446744073709551616) (he : 18446744073709551616 ≤ rest) : Guess ((u2 * 18446744073709551616 + u1) * 18446744073709551616 + u0) (v1 * 18446744073709551616 + v0) d := by
  refine h.meets ?_
  have h1 := word_mul ⟨h.d0, by have := h.d1; omega⟩ hv
  omega
theorem Srch.down {u2 u1 u0 v1 v0 d rest : Int} (h : Srch u2 u1 u0 v1 v0 d rest) (hu : 0 ≤ u0 ∧ u0 < 18446744073709551616) (hv1 : 0 ≤ v1) (hv : 0 ≤ v0 ∧ v0 < 18446744073709551616) (he : rest * 18446744073709551616 + u0 < d * v0) :
    1 ≤ d ∧ Srch u2 u1 u0 v1 v0 (d - 1) (rest + v1) := by
  have h0 := h.r0
  have hd : 1 ≤ d := by
    refine Int.not_lt.1 fun hlt => ?_
    have : d = 0 := by have := h.d0; omega
    rw [this] at he; omega
  refine ⟨hd, by omega, by have := h.d1; omega, by have := h.re; grind, by omega, Or.inl ?_⟩
  have := h.re
  grind
theorem Srch.start {u2 u1 u0 v1 v0 : Int} (h2 : 0 ≤ u2) (h1 : 0 ≤ u1 ∧ u1 < 18446744073709551616) (h0 : 0 ≤ u0 ∧ u0 < 18446744073709551616) (hv : u2 < v1) (hv0 : 0 ≤ v0) :
    Srch u2 u1 u0 v1 v0 ((u2 * 18446744073709551616 + u1) / v1) ((u2 * 18446744073709551616 + u1) % v1) := by
  have hp : 0 < v1 := by omega
  obtain ⟨N, hN⟩ : ∃ N, N = u2 * 18446744073709551616 + u1 := ⟨_, rfl⟩
  rw [← hN]
  have e := Int.emod_add_mul_ediv N v1
  have d0 : 0 ≤ N / v1 := Int.ediv_nonneg (by omega) (by omega)
  refine ⟨d0, ?_, ?_, Int.emod_nonneg _ (by omega), Or.inl ?_⟩
  · have : N / v1 < 18446744073709551616 := Int.ediv_lt_of_lt_mul hp (by
      have := mul_le_r (show u2 + 1 ≤ v1 by omega) (show (0 : Int) ≤ 18446744073709551616 by omega)
      omega)
    omega
  · rw [← hN, Int.mul_comm]; omega
  · rw [← hN]
    have a1 := Int.lt_ediv_add_one_mul_self N hp
    have a2 := mul_le_r (show N + 1 ≤ (N / v1 + 1) * v1 by omega) (show (0 : Int) ≤ 18446744073709551616 by omega)
    have a3 : 0 ≤ (N / v1 + 1) * v0 := Int.mul_nonneg (by omega) hv0
    have a4 : (N / v1 + 1) * (v1 * 18446744073709551616 + v0) = (N / v1 + 1) * v1 * 18446744073709551616 + (N / v1 + 1) * v0 := by grind
    omega
theorem Srch.top {u2 u1 u0 v1 v0 : Int} (h1 : 0 ≤ u1) (hv : u2 = v1) (hv1 : 0 ≤ v1) : Srch u2 u1 u0 v1 v0 18446744073709551615 (u1 + v1) := by
  subst hv
  exact ⟨by omega, by omega, by omega, by omega, Or.inr rfl⟩
def prw (v : Nat → Int) (d : Int) (n i : Nat) : Int := if i < n then md (fun _ => 0) v d i else mc (fun _ => 0) v d n
theorem prw_bd {v : Nat → Int} {d : Int} {n : Nat} (hd : 0 ≤ d ∧ d < 18446744073709551616) (hv : ∀ i, i < n → 0 ≤ v i ∧ v i < 18446744073709551616) (i : Nat) : 0 ≤ prw v d n i ∧ prw v d n i < 18446744073709551616 := by
  unfold prw
  split
  · exact md_bd _ _ _ _
  · exact mc_bd hd n (fun _ _ => by omega) hv
theorem prw_dv {v : Nat → Int} {d : Int} {n : Nat} : dv 18446744073709551616 (prw v d n) (n + 1) = d * dv 18446744073709551616 v n := by
  simp only [dv]
  have h := mc_dv (fun _ => 0) v d n
  rw [dv_zero (f := fun _ => (0 : Int)) (fun _ _ => rfl)] at h
  rw [show prw v d n n = mc (fun _ => 0) v d n from if_neg (by omega), dv_congr (f := prw v d n) (g := md (fun _ => 0) v d) (n := n) (fun i hi => if_pos hi)]
  omega
theorem take_ok {u v : Nat → Int} {n : Nat} {d : Int} (hu : ∀ i, i < n + 1 → 0 ≤ u i ∧ u i < 18446744073709551616) (hv : ∀ i, i < n → 0 ≤ v i ∧ v i < 18446744073709551616) (hd : 0 ≤ d ∧ d < 18446744073709551616) (hV : 0 < dv 18446744073709551616 v n)
    (h1 : dv 18446744073709551616 u (n + 1) / dv 18446744073709551616 v n ≤ d) (h2 : d ≤ dv 18446744073709551616 u (n + 1) / dv 18446744073709551616 v n + 1) :
    (wb u (prw v d n) (n + 1) = 0 → d = dv 18446744073709551616 u (n + 1) / dv 18446744073709551616 v n ∧ dv 18446744073709551616 (we u (prw v d n)) (n + 1) = dv 18446744073709551616 u (n + 1) % dv 18446744073709551616 v n) ∧
    (wb u (prw v d n) (n + 1) ≠ 0 → 1 ≤ d ∧ d - 1 = dv 18446744073709551616 u (n + 1) / dv 18446744073709551616 v n ∧ dv 18446744073709551616 (wd (we u (prw v d n)) (zw v n)) (n + 1) = dv 18446744073709551616 u (n + 1) % dv 18446744073709551616 v n) := by
  have e1 := wb_dv u (prw v d n) (n + 1) hu (fun i _ => prw_bd hd hv i)
  have e2 := wb_bd u (prw v d n) (n + 1)
  have e3 := dv_bd (B := 18446744073709551616) (f := we u (prw v d n)) (n := n + 1) (by omega) (fun i _ => we_bd _ _ i)
  have e4 := dv_bd (B := 18446744073709551616) (by omega) hu
  have e6 := dv_bd (B := 18446744073709551616) (by omega) hv
  rw [prw_dv] at e1
  have f1 := wc_dv (we u (prw v d n)) (zw v n) (n + 1)
  rw [zw_dv (by omega)] at f1
  generalize dv 18446744073709551616 u (n + 1) = U at *
  generalize dv 18446744073709551616 v n = V at *
  have e5 := Int.emod_add_mul_ediv U V
  have r0 := Int.emod_nonneg U (show V ≠ 0 by omega)
  have r1 := Int.emod_lt_of_pos U hV
  have q0 : 0 ≤ U / V := Int.ediv_nonneg e4.1 (by omega)
  generalize U / V = q at *
  generalize U % V = r at *
  rw [Int.mul_comm V q] at e5
  have hp : (18446744073709551616 : Int) ^ (n + 1) = 18446744073709551616 ^ n * 18446744073709551616 := Int.pow_succ _ _
  have hp0 := pow_pos' (show (0 : Int) < 18446744073709551616 by omega) n
  rcases (by omega : d = q ∨ d = q + 1) with c | c
  · subst c
    refine ⟨fun hz => ⟨rfl, by rw [hz] at e1; omega⟩, fun hz => ?_⟩
    have hz1 : wb u (prw v d n) (n + 1) = 1 := by omega
    rw [hz1] at e1; omega
  · subst c
    rw [Int.add_mul, Int.one_mul] at e1
    refine ⟨fun hz => by rw [hz] at e1; omega, fun hz => ⟨by omega, by omega, ?_⟩⟩
    have hz1 : wb u (prw v (q + 1) n) (n + 1) = 1 := by omega
    rw [hz1] at e1
    have f2 := wc_bd (X := we u (prw v (q + 1) n)) (Y := zw v n) (n + 1) (fun i _ => we_bd u (prw v (q + 1) n) i) (fun i (_ : i < n + 1) => zw_bd (n := n) (by omega) hv i)
    have f3 := dv_bd (B := 18446744073709551616) (f := wd (we u (prw v (q + 1) n)) (zw v n)) (n := n + 1) (by omega) (fun i _ => wd_bd _ _ i)
    rcases (by omega : wc (we u (prw v (q + 1) n)) (zw v n) (n + 1) = 0 ∨ wc (we u (prw v (q + 1) n)) (zw v n) (n + 1) = 1) with g | g
    · rw [g] at f1; omega
    · rw [g] at f1; omega
def shc (l : Nat → Int) (s : Nat) : Nat → Int
  | 0 => 0
  | i + 1 => (l i * 2 ^ s + shc l s i) / 18446744073709551616
def shd (l : Nat → Int) (s i : Nat) : Int := (l i * 2 ^ s + shc l s i) % 18446744073709551616
theorem shd_bd (l : Nat → Int) (s i : Nat) : 0 ≤ shd l s i ∧ shd l s i < 18446744073709551616 := by unfold shd; omega
theorem shc_dv (l : Nat → Int) (s : Nat) : ∀ i, dv 18446744073709551616 (shd l s) i + shc l s i * 18446744073709551616 ^ i = dv 18446744073709551616 l i * 2 ^ s
  | 0 => by simp [dv, shc]
  | i + 1 => by
    have ih := shc_dv l s i
    simp only [dv, shc, Int.pow_succ]
    have e : shd l s i = l i * 2 ^ s + shc l s i - 18446744073709551616 * ((l i * 2 ^ s + shc l s i) / 18446744073709551616) := by unfold shd; omega
    rw [e]
    obtain ⟨q, hq⟩ : ∃ q, q = (l i * 2 ^ s + shc l s i) / 18446744073709551616 := ⟨_, rfl⟩
    rw [← hq]
    grind
theorem pow2_split {s : Nat} (hs : s < 64) : (2 : Int) ^ s * 2 ^ (64 - s) = 18446744073709551616 := by
  rw [← Int.pow_add, show s + (64 - s) = 64 by omega]; rfl
theorem sh_word {w c : Int} {s : Nat} (hs : s < 64) (hw : 0 ≤ w ∧ w < 18446744073709551616) (hc : 0 ≤ c ∧ c < 2 ^ s) :
    (w * 2 ^ s + c) / 18446744073709551616 = w / 2 ^ (64 - s) ∧ (w * 2 ^ s) % 18446744073709551616 = (w % 2 ^ (64 - s)) * 2 ^ s ∧ (w * 2 ^ s + c) % 18446744073709551616 = (w % 2 ^ (64 - s)) * 2 ^ s + c ∧
      0 ≤ w / 2 ^ (64 - s) ∧ w / 2 ^ (64 - s) < 2 ^ s ∧ (w % 2 ^ (64 - s)) * 2 ^ s + c < 18446744073709551616 := by
  have hp := pow2_split hs
  have p1 := pow_pos' (show (0 : Int) < 2 by omega) s
  have p2 := pow_pos' (show (0 : Int) < 2 by omega) (64 - s)
  have e := Int.emod_add_mul_ediv w (2 ^ (64 - s))
  have r0 := Int.emod_nonneg w (show (2 : Int) ^ (64 - s) ≠ 0 by omega)
  have r1 := Int.emod_lt_of_pos w p2
  have q0 : 0 ≤ w / 2 ^ (64 - s) := Int.ediv_nonneg hw.1 (by omega)
  have q1 : w / 2 ^ (64 - s) < 2 ^ s := Int.ediv_lt_of_lt_mul p2 (by rw [hp]; exact hw.2)
  generalize w / 2 ^ (64 - s) = q at *
  generalize w % 2 ^ (64 - s) = r at *
  have k1 : r * 2 ^ s ≤ (2 ^ (64 - s) - 1) * 2 ^ s := mul_le_r (by omega) (by omega)
  have k2 : 0 ≤ r * 2 ^ s := Int.mul_nonneg r0 (by omega)
  have k3 : (2 ^ (64 - s) - 1) * (2 : Int) ^ s = 18446744073709551616 - 2 ^ s := by rw [Int.sub_mul, Int.one_mul, Int.mul_comm, hp]
  have k4 : w * 2 ^ s = r * 2 ^ s + 18446744073709551616 * q := by rw [← hp]; grind
  generalize (2 : Int) ^ s = S at *
  generalize r * S = t at *
  generalize w * S = t2 at *
  refine ⟨by omega, by omega, by omega, q0, q1, by omega⟩
theorem shc_bd {l : Nat → Int} {s : Nat} (hs : s < 64) : ∀ i, (∀ k, k < i → 0 ≤ l k ∧ l k < 18446744073709551616) → 0 ≤ shc l s i ∧ shc l s i < 2 ^ s
  | 0, _ => by have := pow_pos' (show (0 : Int) < 2 by omega) s; simp only [shc]; omega
  | i + 1, h => by
    have h1 := shc_bd hs i (fun k hk => h k (by omega))
    have h2 := sh_word hs (h i (by omega)) h1
    simp only [shc]
    rw [h2.1]
    exact ⟨h2.2.2.2.1, h2.2.2.2.2.1⟩
def shr (a : Nat → Int) (n s i : Nat) : Int := a i / 2 ^ s + (if i + 1 < n then a (i + 1) % 2 ^ s * 2 ^ (64 - s) else 0)
theorem shr_word {x y : Int} {s : Nat} (hs : s < 64) (hx : 0 ≤ x ∧ x < 18446744073709551616) (hy : 0 ≤ y ∧ y < 18446744073709551616) :
    0 ≤ x / 2 ^ s ∧ x / 2 ^ s < 2 ^ (64 - s) ∧ (y * 2 ^ (64 - s)) % 18446744073709551616 = y % 2 ^ s * 2 ^ (64 - s) ∧ 0 ≤ y % 2 ^ s ∧ x / 2 ^ s + y % 2 ^ s * 2 ^ (64 - s) < 18446744073709551616 := by
  have hp := pow2_split hs
  have p1 := pow_pos' (show (0 : Int) < 2 by omega) s
  have p2 := pow_pos' (show (0 : Int) < 2 by omega) (64 - s)
  have e := Int.emod_add_mul_ediv y (2 ^ s)
  have r0 := Int.emod_nonneg y (show (2 : Int) ^ s ≠ 0 by omega)
  have r1 := Int.emod_lt_of_pos y p1
  have x0 : 0 ≤ x / 2 ^ s := Int.ediv_nonneg hx.1 (by omega)
  have x1 : x / 2 ^ s < 2 ^ (64 - s) := Int.ediv_lt_of_lt_mul p1 (by rw [Int.mul_comm, hp]; exact hx.2)
  generalize y / 2 ^ s = q at *
  generalize y % 2 ^ s = r at *
  have k1 : r * 2 ^ (64 - s) ≤ (2 ^ s - 1) * 2 ^ (64 - s) := mul_le_r (by omega) (by omega)
  have k2 : 0 ≤ r * 2 ^ (64 - s) := Int.mul_nonneg r0 (by omega)
  have k3 : ((2 : Int) ^ s - 1) * 2 ^ (64 - s) = 18446744073709551616 - 2 ^ (64 - s) := by rw [Int.sub_mul, Int.one_mul, hp]
  have k4 : y * 2 ^ (64 - s) = r * 2 ^ (64 - s) + 18446744073709551616 * q := by rw [← hp]; grind
  generalize (2 : Int) ^ (64 - s) = S at *
  generalize r * S = t at *
  generalize y * S = t2 at *
  exact ⟨x0, x1, by omega, r0, by omega⟩
theorem shr_dv {a : Nat → Int} {s n : Nat} (hs : s < 64) (ha : ∀ i, i < n → 0 ≤ a i ∧ a i < 18446744073709551616) : ∀ k, k ≤ n →
    dv 18446744073709551616 (shr a n s) k * 2 ^ s + (if 0 < k then a 0 % 2 ^ s else 0) = dv 18446744073709551616 a k + (if 0 < k ∧ k < n then a k % 2 ^ s * 18446744073709551616 ^ k else 0) := by
  have hp := pow2_split hs
  intro k
  induction k with
  | zero => intro _; simp [dv]
  | succ k ih =>
    intro hk
    have ih := ih (by omega)
    have e1 := Int.emod_add_mul_ediv (a k) (2 ^ s)
    simp only [dv]
    rw [if_pos (by omega : 0 < k + 1)]
    rw [Int.add_mul]
    unfold shr at ih ⊢
    by_cases c : k + 1 < n
    · rw [if_pos c, if_pos ⟨by omega, c⟩]
      by_cases c0 : k = 0
      · subst c0
        simp only [dv, Int.pow_zero, Int.pow_succ]
        grind
      · rw [if_pos (by omega), if_pos ⟨by omega, by omega⟩] at ih
        rw [Int.pow_succ]
        grind
    · rw [if_neg c, if_neg (by omega)]
      by_cases c0 : k = 0
      · subst c0
        simp only [dv, Int.pow_zero]
        grind
      · rw [if_pos (by omega), if_pos ⟨by omega, by omega⟩] at ih
        grind
theorem shr_val {a : Nat → Int} {s n : Nat} (hs : s < 64) (ha : ∀ i, i < n → 0 ≤ a i ∧ a i < 18446744073709551616) : dv 18446744073709551616 (shr a n s) n = dv 18446744073709551616 a n / 2 ^ s := by
  have h := shr_dv hs ha n (Nat.le_refl _)
  have p1 := pow_pos' (show (0 : Int) < 2 by omega) s
  rw [if_neg (by omega : ¬ (0 < n ∧ n < n))] at h
  have r : 0 ≤ (if 0 < n then a 0 % 2 ^ s else 0) ∧ (if 0 < n then a 0 % 2 ^ s else 0) < (2 : Int) ^ s := by
    split
    · exact ⟨Int.emod_nonneg _ (by omega), Int.emod_lt_of_pos _ p1⟩
    · omega
  generalize (if 0 < n then a 0 % 2 ^ s else 0) = t at *
  rw [Int.add_zero] at h
  rw [← h, Int.add_comm, Int.add_mul_ediv_right _ _ (by omega), Int.ediv_eq_zero_of_lt r.1 r.2]; omega
theorem shr_bd {a : Nat → Int} {s n : Nat} (hs : s < 64) (ha : ∀ i, i < n → 0 ≤ a i ∧ a i < 18446744073709551616) (i : Nat) (hi : i < n) : 0 ≤ shr a n s i ∧ shr a n s i < 18446744073709551616 := by
  unfold shr
  by_cases c : i + 1 < n
  · rw [if_pos c]
    have h := shr_word hs (ha i hi) (ha (i + 1) c)
    have p2 := pow_pos' (show (0 : Int) < 2 by omega) (64 - s)
    have := Int.mul_nonneg h.2.2.2.1 (show (0 : Int) ≤ 2 ^ (64 - s) by omega)
    omega
  · rw [if_neg c]
    have h := shr_word hs (ha i hi) (ha i hi)
    have := pow2_split hs
    have p1 := pow_pos' (show (0 : Int) < 2 by omega) s
    have : (1 : Int) * 2 ^ (64 - s) ≤ 2 ^ s * 2 ^ (64 - s) := mul_le_r (by omega) (by have := pow_pos' (show (0 : Int) < 2 by omega) (64 - s); omega)
    omega
end Go.Proofs.Ytejliecmdkmgiaa
namespace Go.Proofs.Ytejliecmdkmgiaa
def adF (Z g : Nat → Int) (o m t : Nat) : Int := if t < o then Z t else wd (fun i => Z (o + i)) (zw g m) (t - o)
theorem adF_bd {Z g : Nat → Int} {o m t n : Nat} (hZ : ∀ i, i < n → 0 ≤ Z i ∧ Z i < 18446744073709551616) (ht : t < n) : 0 ≤ adF Z g o m t ∧ adF Z g o m t < 18446744073709551616 := by
  unfold adF
  split
  · exact hZ t ht
  · exact wd_bd _ _ _
theorem adF_dv {Z g : Nat → Int} {o m r : Nat} (hZ : ∀ i, i < o + r → 0 ≤ Z i ∧ Z i < 18446744073709551616) (hg : ∀ i, i < m → 0 ≤ g i ∧ g i < 18446744073709551616) (hm : m ≤ r)
    (hf : dv 18446744073709551616 Z (o + r) + 18446744073709551616 ^ o * dv 18446744073709551616 g m < 18446744073709551616 ^ (o + r)) :
    dv 18446744073709551616 (adF Z g o m) (o + r) = dv 18446744073709551616 Z (o + r) + 18446744073709551616 ^ o * dv 18446744073709551616 g m := by
  rw [dv_split] at hf ⊢
  rw [dv_split]
  have h0 := (dv_bd (B := 18446744073709551616) (by omega) (fun i hi => hZ i (show i < o + r by omega)) (n := o)).1
  have hp := pow_pos' (show (0 : Int) < 18446744073709551616 by omega) o
  have hfit : dv 18446744073709551616 (fun i => Z (o + i)) r + dv 18446744073709551616 g m < 18446744073709551616 ^ r := by
    refine Int.lt_of_mul_lt_mul_left (a := 18446744073709551616 ^ o) ?_ (by omega)
    rw [← Int.pow_add, Int.mul_add]; omega
  have e1 : dv 18446744073709551616 (adF Z g o m) o = dv 18446744073709551616 Z o := dv_congr fun i hi => if_pos hi
  have e2 : dv 18446744073709551616 (fun i => adF Z g o m (o + i)) r = dv 18446744073709551616 (wd (fun i => Z (o + i)) (zw g m)) r := dv_congr fun i hi => by
    show (if o + i < o then _ else _) = _
    rw [if_neg (by omega), show o + i - o = i by omega]
  rw [e1, e2, wd_val (fun i hi => hZ (o + i) (by omega)) (fun i _ => zw_bd (by omega) hg i) (by rw [zw_dv hm]; exact hfit), zw_dv hm, Int.mul_add]
  omega
theorem dv_zeros (n : Nat) : dv 18446744073709551616 (fun _ => 0) n = 0 := dv_zero fun _ _ => rfl
theorem kara {a0 a1 b0 b1 K : Int} : a0 * b0 + K * K * (a1 * b1) + K * ((a0 + a1) * (b0 + b1) - a0 * b0 - a1 * b1) = (a0 + K * a1) * (b0 + K * b1) := by grind
theorem kara_nn {a0 a1 b0 b1 : Int} (h0 : 0 ≤ a0) (h1 : 0 ≤ a1) (h2 : 0 ≤ b0) (h3 : 0 ≤ b1) :
    0 ≤ a0 * b0 ∧ 0 ≤ a1 * b1 ∧ a0 * b0 ≤ (a0 + a1) * (b0 + b1) ∧ a1 * b1 ≤ (a0 + a1) * (b0 + b1) - a0 * b0 ∧ 0 ≤ (a0 + a1) * (b0 + b1) - a0 * b0 - a1 * b1 := by
  have e : (a0 + a1) * (b0 + b1) = a0 * b0 + a1 * b1 + (a0 * b1 + a1 * b0) := by grind
  have p1 := Int.mul_nonneg h0 h2
  have p2 := Int.mul_nonneg h1 h3
  have p3 := Int.mul_nonneg h0 h3
  have p4 := Int.mul_nonneg h1 h2
  omega
theorem mul_lt_pow {x y : Int} {n m : Nat} (hx : 0 ≤ x ∧ x < 18446744073709551616 ^ n) (hy : 0 ≤ y ∧ y < 18446744073709551616 ^ m) : 0 ≤ x * y ∧ x * y < 18446744073709551616 ^ (n + m) := by
  rw [Int.pow_add]
  refine ⟨Int.mul_nonneg hx.1 hy.1, ?_⟩
  have hp := pow_pos' (show (0 : Int) < 18446744073709551616 by omega) m
  have h1 : x * y ≤ x * 18446744073709551616 ^ m := Int.mul_le_mul_of_nonneg_left (by omega) hx.1
  have h2 : x * 18446744073709551616 ^ m < 18446744073709551616 ^ n * 18446744073709551616 ^ m := Int.mul_lt_mul_of_pos_right hx.2 hp
  omega
end Go.Proofs.Ytejliecmdkmgiaa
namespace Go.Proofs.Ytejliecmdkmgiaa
open Go.RowKit
theorem undW : Try.prog.underlying 47 = some (.slice (Try.prog.elem 47)) := by kernel_rfl
theorem sizeW : ∀ u, (sizeOf (Try.prog.elem 47)).run Try.prog u = .ok 1 u := fun u => by kernel_rfl
theorem cutW (a : Option Addr) (n cap lo hi : Nat) (h1 : lo ≤ hi) (h2 : hi ≤ n) (h3 : n ≤ cap) (h4 : n ≤ 17592186044416) {w : World} {f : Nat → Int} (hr : RdW w (.slice a n cap) n f) :
    ∃ a', (∀ u : World, (Instr.slice 47 (.slice a n cap) (some (.int .i64 (lo : Int))) (some (.int .i64 (hi : Int))) (some (.int .i64 (hi : Int)))).run Try.prog u = .ok (.slice a' (hi - lo) (hi - lo)) u) ∧
      (∀ u : World, (Instr.sliceAt 47 (.slice a n cap) (some (.int .i64 (lo : Int))) (some (.int .i64 (hi : Int))) (some (.int .i64 (hi : Int)))).run Try.prog u = .ok (.slice a' (hi - lo) (hi - lo)) u) ∧
      RdW w (.slice a' (hi - lo) (hi - lo)) (hi - lo) (fun i => f (lo + i)) ∧ (lo < hi → ∀ b o, a' = some ⟨b, o, none⟩ → ∃ o', a = some ⟨b, o', none⟩) := by
  have key : ∀ u : World, (Instr.slice 47 (.slice a n cap) (some (.int .i64 (lo : Int))) (some (.int .i64 (hi : Int))) (some (.int .i64 (hi : Int)))).run Try.prog u = .ok (.slice (if hi = lo then a else a.map (·.add (lo * 1))) (hi - lo) (hi - lo)) u := fun u => by
    rw [run_slice_lhm u 47 a n cap undW .i64 .i64 .i64 (lo : Int) (hi : Int) (hi : Int) (by omega) (by omega) (by omega) (by omega), sizeW]
    simp only [Result.andThen, sliced, Int.toNat_natCast]
  refine ⟨_, key, fun u => by rw [run_sliceAt_slice u 47 _ _ _ _ undW, key u], ?_, ?_⟩
  · obtain ⟨⟨a0, c0, e, k1, k2, k3⟩, hw⟩ := hr
    simp only [Value.slice.injEq, true_and] at e
    obtain ⟨rfl, rfl⟩ := e
    refine ⟨⟨_, _, rfl, Nat.le_refl _, by omega, fun hp => ?_⟩, fun i hi => hw (lo + i) (by omega)⟩
    obtain ⟨b, o, rfl, hc⟩ := k3 (by omega)
    refine ⟨b, o + lo, by rw [if_neg (by omega)]; simp [Addr.add], fun i hi => ?_⟩
    rw [Nat.add_assoc]; exact hc (lo + i) (by omega)
  · intro hl b o e
    rw [if_neg (by omega)] at e
    obtain ⟨⟨a0, c0, e0, -, -, k3⟩, -⟩ := hr
    simp only [Value.slice.injEq, true_and] at e0
    obtain ⟨rfl, rfl⟩ := e0
    obtain ⟨b0, o0, rfl, -⟩ := k3 (by omega)
    simp [Addr.add] at e
    have e1 : b0 = b := by split at e <;> exact congrArg Addr.block e
    exact ⟨o0, by rw [e1]⟩
theorem fromW (a : Option Addr) (n cap lo : Nat) (h1 : lo ≤ n) (h3 : n ≤ cap) {w : World} {f : Nat → Int} (hr : RdW w (.slice a n cap) n f) :
    ∃ a', (∀ u : World, (Instr.slice 47 (.slice a n cap) (some (.int .i64 (lo : Int))) none none).run Try.prog u = .ok (.slice a' (n - lo) (cap - lo)) u) ∧
      (∀ u : World, (Instr.sliceAt 47 (.slice a n cap) (some (.int .i64 (lo : Int))) none none).run Try.prog u = .ok (.slice a' (n - lo) (cap - lo)) u) ∧
      RdW w (.slice a' (n - lo) (cap - lo)) (n - lo) (fun i => f (lo + i)) ∧ (lo < n → ∀ b o, a' = some ⟨b, o, none⟩ → ∃ o', a = some ⟨b, o', none⟩) ∧ (lo < n → ∀ b o, a = some ⟨b, o, none⟩ → a' = some ⟨b, o + lo, none⟩) := by
  have key : ∀ u : World, (Instr.slice 47 (.slice a n cap) (some (.int .i64 (lo : Int))) none none).run Try.prog u = .ok (.slice (if cap = lo then a else a.map (·.add (lo * 1))) (n - lo) (cap - lo)) u := fun u => by
    rw [run_slice_l u 47 a n cap undW .i64 (lo : Int) (by omega) (by omega), sizeW]
    simp only [Result.andThen, sliced, Int.toNat_natCast]
  refine ⟨_, key, fun u => by rw [run_sliceAt_slice u 47 _ _ _ _ undW, key u], ?_, ?_, ?_⟩
  · obtain ⟨⟨a0, c0, e, k1, k2, k3⟩, hw⟩ := hr
    simp only [Value.slice.injEq, true_and] at e
    obtain ⟨rfl, rfl⟩ := e
    refine ⟨⟨_, _, rfl, by omega, by omega, fun hp => ?_⟩, fun i hi => hw (lo + i) (by omega)⟩
    obtain ⟨b, o, rfl, hc⟩ := k3 (by omega)
    refine ⟨b, o + lo, by rw [if_neg (by omega)]; simp [Addr.add], fun i hi => ?_⟩
    rw [Nat.add_assoc]; exact hc (lo + i) (by omega)
  · intro hl b o e
    rw [if_neg (by omega)] at e
    obtain ⟨⟨a0, c0, e0, -, -, k3⟩, -⟩ := hr
    simp only [Value.slice.injEq, true_and] at e0
    obtain ⟨rfl, rfl⟩ := e0
    obtain ⟨b0, o0, rfl, -⟩ := k3 (by omega)
    simp [Addr.add] at e
    have e1 : b0 = b := by split at e <;> exact congrArg Addr.block e
    exact ⟨o0, by rw [e1]⟩
  · rintro hl b o rfl
    rw [if_neg (by omega)]; simp [Addr.add]
theorem headW (a : Option Addr) (n cap hi : Nat) (h2 : hi ≤ n) (h3 : n ≤ cap) (h4 : n ≤ 17592186044416) :
    (∀ u : World, (Instr.slice 47 (.slice a n cap) none (some (.int .i64 (hi : Int))) (some (.int .i64 (hi : Int)))).run Try.prog u = .ok (.slice a hi hi) u) ∧
      (∀ u : World, (Instr.sliceAt 47 (.slice a n cap) none (some (.int .i64 (hi : Int))) (some (.int .i64 (hi : Int)))).run Try.prog u = .ok (.slice a hi hi) u) := by
  have key : ∀ u : World, (Instr.slice 47 (.slice a n cap) none (some (.int .i64 (hi : Int))) (some (.int .i64 (hi : Int)))).run Try.prog u = .ok (.slice a hi hi) u := fun u => by
    rw [run_slice_hm u 47 a n cap undW .i64 .i64 (hi : Int) (hi : Int) (by omega) (by omega) (by omega), sizeW]
    simp only [Result.andThen, sliced, Int.toNat_natCast, Nat.sub_zero]
    congr 2
    cases a with
    | none => simp
    | some ad => obtain ⟨b, o, x⟩ := ad; simp [Addr.add]
  exact ⟨key, fun u => by rw [run_sliceAt_slice u 47 _ _ _ _ undW, key u]⟩
theorem RdW.head {a : Option Addr} {n cap hi : Nat} (h2 : hi ≤ n) {w : World} {f : Nat → Int} (hr : RdW w (.slice a n cap) n f) : RdW w (.slice a hi hi) hi f := by
  obtain ⟨⟨a0, c0, e, k1, k2, k3⟩, hw⟩ := hr
  simp only [Value.slice.injEq, true_and] at e
  obtain ⟨rfl, rfl⟩ := e
  refine ⟨⟨_, _, rfl, Nat.le_refl _, by omega, fun hp => ?_⟩, fun i hi => hw i (by omega)⟩
  obtain ⟨b, o, rfl, hc⟩ := k3 (by omega)
  exact ⟨b, o, rfl, fun i hi => hc i (by omega)⟩
theorem mtrim_any (a : Option Addr) (n cap : Nat) (f : Nat → Int) (w : World) (hr : RdA .u64 w (.slice a n cap) n f) :
    Calls Try.prog 182 #[.slice a n cap] w fun e w' => e = .returned (.slice a (sz f n) (sz f n)) ∧ w = w' := by
  obtain ⟨a', cap', e, h1, h2, h3⟩ := wd_get hr
  simp only [Value.slice.injEq, true_and] at e
  obtain ⟨rfl, rfl⟩ := e
  have H3 := Lib.hid h3
  clear h3 hr
  go_enter Try.func182, Try.ntmps182
  go_wp2_with fail
  go_loop [3] (fun kv => ∃ k : Nat, k ≤ n ∧ Hid (sz f k = sz f n) ∧ kv = .int .i64 k) (fun kv => (intOf kv).toNat)
  case atStart => exact ⟨n, Nat.le_refl _, rfl, rfl⟩
  case round =>
    obtain ⟨k, k1, k2, rfl⟩ := hrel
    obtain ⟨hsl, hsa⟩ := headW a n cap k k1 h1 h2
    rcases Nat.eq_zero_or_pos k with e | hk
    · subst e
      go_wp2_with fail
      go_ret
      exact ⟨by rw [← k2.out]; rfl, rfl⟩
    · obtain ⟨b, o, rfl, hc⟩ := H3.out (k - 1) (by omega)
      have hk' : (0 : Int) < (k : Int) := by omega
      obtain ⟨x, hx⟩ : ∃ x, x = f (k - 1) := ⟨_, rfl⟩
      rw [← hx] at hc
      obtain ⟨q, hq⟩ : ∃ q, q = k - 1 := ⟨_, rfl⟩
      rw [← hq] at hc
      have hq1 : (k : Int) - 1 = (q : Int) := by omega
      have hq2 : q < n := by omega
      have HQ := Lib.hid hq
      have HX := Lib.hid hx
      clear hq hx
      by_cases hz : x = 0
      · have hzb : (x == 0) = true := beq_iff_eq.2 hz
        have HZ := Lib.hid hz
        clear hz
        go_wp2_with fail
        go_round
        case rel =>
          refine ⟨q, by omega, ?_, rfl⟩
          show _ = _
          rw [← k2.out, show k = q + 1 by have := HQ.out; omega]
          show _ = if f q = 0 then sz f q else q + 1
          rw [if_pos (by rw [HQ.out, ← HX.out]; exact HZ.out)]
        case measure => simp [intOf]; omega
      · have hzb : (x == 0) = false := beq_eq_false_iff_ne.2 hz
        have hfin : Hid (sz f n = k) := by
          show _ = _
          rw [← k2.out, show k = q + 1 by have := HQ.out; omega]
          show (if f q = 0 then sz f q else q + 1) = _
          rw [if_neg (by rw [HQ.out, ← HX.out]; exact hz)]
        clear hz
        go_wp2_with fail
        go_ret
        exact ⟨by rw [hfin.out]; rfl, rfl⟩
theorem addTo_any (zb zo zn zc T : Nat) (Z : Nat → Int) (ay : Option Addr) (m cy : Nat) (g : Nat → Int) (w : World) (hT : zo + zn = T) (hTb : T ≤ 17592186044416) (hm : m ≤ zn) (hB : Blk w zb T 62) (hZ : RowAt .u64 w zb 0 T Z)
    (hZb : ∀ i, i < T → 0 ≤ Z i ∧ Z i < 18446744073709551616) (hy : RdW w (.slice ay m cy) m g) (hyo : 0 < m → ∀ b o, ay = some ⟨b, o, none⟩ → b ≠ zb) :
    Calls Try.prog 184 #[.slice (some ⟨zb, zo, none⟩) zn zc, .slice ay m cy] w fun e w' => e = .returned (.tuple #[]) ∧ Blk w' zb T 62 ∧ RowAt .u64 w' zb 0 T (adF Z g zo m) ∧ w.grownBy w' (some zb) := by
  obtain ⟨_, _, e2, g1, g2, g3⟩ := wd_get hy.1
  simp only [Value.slice.injEq, true_and] at e2
  obtain ⟨rfl, rfl⟩ := e2
  have hgb := words_bd hy.2
  obtain ⟨X, hX⟩ : ∃ X, X = fun i => Z (zo + i) := ⟨_, rfl⟩
  obtain ⟨Y, hY⟩ : ∃ Y, Y = zw g m := ⟨_, rfl⟩
  have hXb : ∀ i, i < zn → 0 ≤ X i ∧ X i < 18446744073709551616 := fun i hi => by rw [hX]; exact hZb (zo + i) (by omega)
  have hYb : ∀ i, i < zn → 0 ≤ Y i ∧ Y i < 18446744073709551616 := fun i _ => by rw [hY]; exact zw_bd (by omega) hgb i
  have hY0 : ∀ i, m ≤ i → Y i = 0 := fun i hi => by rw [hY]; exact if_neg (by omega)
  have hYg : ∀ i, i < m → Y i = g i := fun i hi => by rw [hY]; exact if_pos hi
  have hfin : ∀ i, i < T → adF Z g zo m i = if i < zo then Z i else wd X Y (i - zo) := fun i _ => by rw [hX, hY]; rfl
  have hZX : ∀ i, i < zn → Z (zo + i) = X i := fun i _ => by rw [hX]
  have g3 : ∀ i, i < m → ∃ b o, ay = some ⟨b, o, none⟩ ∧ b ≠ zb ∧ w.cell? ⟨b, o + i, none⟩ = some (.int .u64 (g i)) := fun i hi => by
    obtain ⟨b, o, e, hc⟩ := g3 i hi
    exact ⟨b, o, e, hyo (by omega) b o e, hc⟩
  have G3 := Lib.hid g3
  have HZ := Lib.hid hZ
  have HB := Lib.hid hB
  have HXB := Lib.hid hXb
  have HYB := Lib.hid hYb
  have HY0 := Lib.hid hY0
  have HYG := Lib.hid hYg
  have HZX := Lib.hid hZX
  have HFIN := Lib.hid hfin
  clear g3 hZ hB hXb hYb hY0 hYg hZX hfin hy hyo hgb hX hY
  go_enter Try.func184, Try.ntmps184
  go_wp2_with fail
  go_loopw [4, 9] (fun cv iv wr => ∃ j : Nat, j ≤ m ∧ iv = .int .i64 j ∧ cv = .int .u64 (wc X Y j) ∧ RowAt .u64 wr zb 0 T (fun i => if zo ≤ i ∧ i < zo + j then wd X Y (i - zo) else Z i) ∧ Blk wr zb T 62 ∧ w.grownBy wr (some zb)) (fun _ iv _ => m - (intOf iv).toNat)
  case atStart => exact ⟨0, Nat.zero_le _, rfl, rfl, HZ.out.congr fun i _ => (if_neg (by omega)).symm, HB.out, gb_refl _ _⟩
  case round =>
    clear HZ HB
    obtain ⟨j, j1, rfl, rfl, hrow, hblk, hgr⟩ := hrel
    obtain ⟨c0, c1⟩ := wc_bd (X := X) (Y := Y) j (fun k hk => HXB.out k (by omega)) (fun k hk => HYB.out k (by omega))
    obtain ⟨c, hc⟩ : ∃ c, c = wc X Y j := ⟨_, rfl⟩
    rw [← hc] at c0 c1 ⊢
    have HC := Lib.hid hc
    clear hc
    by_cases hj : j < m
    · obtain ⟨d1, d2⟩ := hrow.get0 (i := zo + j) (by omega) (x := X j) (by rw [if_neg (by omega), HZX.out j (by omega)])
      obtain ⟨b2, o2, rfl, hne, hcy⟩ := G3.out j (by omega)
      have hcy := hgr.cell hcy (fun e => hne (Option.some.inj e))
      obtain ⟨x0, x1⟩ := HXB.out j (by omega)
      obtain ⟨y0, y1⟩ := HYB.out j (by omega)
      have hwd : Hid (wd X Y j = (X j + Y j + c) % 18446744073709551616) := by show _ = _; rw [HC.out]; rfl
      have hwc : Hid (wc X Y (j + 1) = (X j + Y j + c) / 18446744073709551616) := by show _ = _; rw [HC.out]; rfl
      rw [← HYG.out j hj] at hcy
      obtain ⟨xj, hxj⟩ : ∃ xj, xj = X j := ⟨_, rfl⟩
      obtain ⟨yj, hyj⟩ : ∃ yj, yj = Y j := ⟨_, rfl⟩
      rw [← hxj] at d1 x0 x1 hwd hwc
      rw [← hyj] at hcy y0 y1 hwd hwc
      have HROW := Lib.hid hrow
      have HBLK := Lib.hid hblk
      have HGR := Lib.hid hgr
      have hadd := add64 xj yj c x0 y0 c0 c1
      clear hxj hyj hrow hblk hgr
      go_wp2_with fail
      go_region
      all_goals
        go_wp2_with fail
        go_roundw
        case rel =>
          refine ⟨j + 1, by omega, by go_num, by rw [hwc.out], (RowAt.set0 (w := wr) HROW.out (j := zo + j) (by omega) _).congr fun i _ => ?_, Blk.set (w := wr) HBLK.out _ _, gb_trans HGR.out (gb_trans (gb_set wr _ _) (gb_drew _ _))⟩
          by_cases e : i = zo + j
          · rw [if_pos e, if_pos (by omega), e, show zo + j - zo = j by omega, hwd.out]
          · rw [if_neg e]
            by_cases e2 : zo ≤ i ∧ i < zo + j
            · rw [if_pos e2, if_pos (by omega)]
            · rw [if_neg e2, if_neg (by omega)]
        case measure => simp [intOf]; omega
    · obtain rfl : j = m := by omega
      have HROW := Lib.hid hrow
      have HBLK := Lib.hid hblk
      have HGR := Lib.hid hgr
      clear hrow hblk hgr
      obtain ⟨wo, hwo⟩ : ∃ wo, wo = wr := ⟨_, rfl⟩
      subst hwo
      go_wp2_with fail
      go_loopw [4, 6] (fun cv iv wr => ∃ k : Nat, j ≤ k ∧ k ≤ zn ∧ iv = .int .i64 k ∧ cv = .int .u64 (wc X Y k) ∧ RowAt .u64 wr zb 0 T (fun i => if zo ≤ i ∧ i < zo + k then wd X Y (i - zo) else Z i) ∧ Blk wr zb T 62 ∧ w.grownBy wr (some zb)) (fun _ iv _ => zn - (intOf iv).toNat)
      case atStart => exact ⟨j, Nat.le_refl _, hm, rfl, by rw [HC.out], HROW.out, HBLK.out, HGR.out⟩
      case round =>
        clear HROW HBLK HGR HC c0 c1
        obtain ⟨k, k0, k1, rfl, rfl, hrow, hblk, hgr⟩ := hrel
        obtain ⟨c0, c1⟩ := wc_bd (X := X) (Y := Y) k (fun k hk => HXB.out k (by omega)) (fun k hk => HYB.out k (by omega))
        obtain ⟨c, hc⟩ : ∃ c, c = wc X Y k := ⟨_, rfl⟩
        rw [← hc] at c0 c1 ⊢
        have HC := Lib.hid hc
        have HROW := Lib.hid hrow
        have HBLK := Lib.hid hblk
        have HGR := Lib.hid hgr
        clear hc hblk hgr
        by_cases hz : c = 0
        · subst hz
          clear hrow
          have hfin : Hid (RowAt .u64 wr zb 0 T (adF Z g zo j)) := HROW.out.congr fun i hi => by
            rw [HFIN.out i hi]
            by_cases e : i < zo
            · rw [if_pos e, if_neg (by omega)]
            · rw [if_neg e]
              by_cases e2 : i < zo + k
              · rw [if_pos (by omega)]
              · rw [if_neg (by omega), (wd_done HXB.out (fun i hi => HY0.out i (by omega)) HC.out.symm (i - zo) (by omega) (by omega)).2, ← HZX.out (i - zo) (by omega), show zo + (i - zo) = i by omega]
          go_wp2_with fail
          go_end0
          exact ⟨rfl, HBLK.out, hfin.out, HGR.out⟩
        · have hnz : (c != 0) = true := by rw [bne_iff_ne]; exact hz
          clear hz
          by_cases hk : k < zn
          · obtain ⟨d1, d2⟩ := hrow.get0 (i := zo + k) (by omega) (x := X k) (by rw [if_neg (by omega), HZX.out k (by omega)])
            obtain ⟨x0, x1⟩ := HXB.out k hk
            have hyz : Hid (Y k = 0) := HY0.out k k0
            have hwd : Hid (wd X Y k = (X k + 0 + c) % 18446744073709551616) := by show _ = _; rw [HC.out, ← hyz.out]; rfl
            have hwc : Hid (wc X Y (k + 1) = (X k + 0 + c) / 18446744073709551616) := by show _ = _; rw [HC.out, ← hyz.out]; rfl
            obtain ⟨xj, hxj⟩ : ∃ xj, xj = X k := ⟨_, rfl⟩
            rw [← hxj] at d1 x0 x1 hwd hwc
            clear hxj hrow
            go_wp2_with (simp only [add64 xj 0 c x0 (Int.le_refl 0) c0 c1])
            go_roundw
            case rel =>
              refine ⟨k + 1, by omega, by omega, by go_num, by rw [hwc.out]; simp, (HROW.out.set0 (j := zo + k) (by omega) _).congr fun i _ => ?_, HBLK.out.set _ _, gb_trans HGR.out (gb_set wr _ _)⟩
              by_cases e : i = zo + k
              · rw [if_pos e, if_pos (by omega), e, show zo + k - zo = k by omega, hwd.out]; simp
              · rw [if_neg e]
                by_cases e2 : zo ≤ i ∧ i < zo + k
                · rw [if_pos e2, if_pos (by omega)]
                · rw [if_neg e2, if_neg (by omega)]
            case measure => simp [intOf]; omega
          · obtain rfl : k = zn := by omega
            clear hrow
            have hfin : Hid (RowAt .u64 wr zb 0 T (adF Z g zo j)) := HROW.out.congr fun i hi => by
              rw [HFIN.out i hi]
              by_cases e : i < zo
              · rw [if_pos e, if_neg (by omega)]
              · rw [if_neg e, if_pos (by omega)]
            go_wp2_with fail
            go_end0
            exact ⟨rfl, HBLK.out, hfin.out, HGR.out⟩
end Go.Proofs.Ytejliecmdkmgiaa
namespace Go.Proofs.Ytejliecmdkmgiaa
open Go.RowKit
theorem subFrom_any (zb n zc : Nat) (Z : Nat → Int) (ay : Option Addr) (m cy : Nat) (g : Nat → Int) (w : World) (hn : n ≤ 17592186044416) (hB : Blk w zb n 62) (hZ : RowAt .u64 w zb 0 n Z)
    (hZb : ∀ i, i < n → 0 ≤ Z i ∧ Z i < 18446744073709551616) (hy : RdW w (.slice ay m cy) m g) (hyo : 0 < m → ∀ b o, ay = some ⟨b, o, none⟩ → b ≠ zb) :
    Calls Try.prog 192 #[.slice (some ⟨zb, 0, none⟩) n zc, .slice ay m cy] w fun e w' => e = .returned (.tuple #[]) ∧ Blk w' zb n 62 ∧ RowAt .u64 w' zb 0 n (we Z (zw g m)) ∧ w.grownBy w' (some zb) := by
  obtain ⟨_, _, e2, g1, g2, g3⟩ := wd_get hy.1
  simp only [Value.slice.injEq, true_and] at e2
  obtain ⟨rfl, rfl⟩ := e2
  have hgb := words_bd hy.2
  obtain ⟨Y, hY⟩ : ∃ Y, Y = zw g m := ⟨_, rfl⟩
  rw [← hY]
  have hYb : ∀ i, i < n → 0 ≤ Y i ∧ Y i < 18446744073709551616 := fun i _ => by rw [hY]; exact zw_bd (by omega) hgb i
  have hY0 : ∀ i, m ≤ i → Y i = 0 := fun i hi => by rw [hY]; exact if_neg (by omega)
  have hYg : ∀ i, i < m → Y i = g i := fun i hi => by rw [hY]; exact if_pos hi
  have g3 : ∀ i, i < m → ∃ b o, ay = some ⟨b, o, none⟩ ∧ b ≠ zb ∧ w.cell? ⟨b, o + i, none⟩ = some (.int .u64 (g i)) := fun i hi => by
    obtain ⟨b, o, e, hc⟩ := g3 i hi
    exact ⟨b, o, e, hyo (by omega) b o e, hc⟩
  have G3 := Lib.hid g3
  have HZ := Lib.hid hZ
  have HB := Lib.hid hB
  have HXB := Lib.hid hZb
  have HYB := Lib.hid hYb
  have HY0 := Lib.hid hY0
  have HYG := Lib.hid hYg
  clear g3 hZ hB hZb hYb hY0 hYg hy hyo hgb hY
  go_enter Try.func192, Try.ntmps192
  go_wp2_with fail
  go_loopw [4, 9] (fun cv iv wr => ∃ j : Nat, j ≤ n ∧ iv = .int .i64 j ∧ cv = .int .u64 (wb Z Y j) ∧ RowAt .u64 wr zb 0 n (fun i => if i < j then we Z Y i else Z i) ∧ Blk wr zb n 62 ∧ w.grownBy wr (some zb)) (fun _ iv _ => n - (intOf iv).toNat)
  case atStart => exact ⟨0, Nat.zero_le _, rfl, rfl, HZ.out.congr fun i _ => (if_neg (by omega)).symm, HB.out, gb_refl _ _⟩
  case round =>
    clear HZ HB
    obtain ⟨j, j1, rfl, rfl, hrow, hblk, hgr⟩ := hrel
    obtain ⟨c0, c1⟩ := wb_bd Z Y j
    obtain ⟨c, hc⟩ : ∃ c, c = wb Z Y j := ⟨_, rfl⟩
    rw [← hc] at c0 c1 ⊢
    have HC := Lib.hid hc
    have HROW := Lib.hid hrow
    have HBLK := Lib.hid hblk
    have HGR := Lib.hid hgr
    clear hc hblk
    by_cases hj : j < n
    · by_cases hm : j < m
      · obtain ⟨d1, d2⟩ := hrow.get0 (i := j) hj (x := Z j) (if_neg (by omega))
        obtain ⟨b2, o2, rfl, hne, hcy⟩ := G3.out j hm
        have hcy := hgr.cell hcy (fun e => hne (Option.some.inj e))
        obtain ⟨x0, x1⟩ := HXB.out j hj
        obtain ⟨y0, y1⟩ := HYB.out j hj
        have hwd : Hid (we Z Y j = (Z j - Y j - c) % 18446744073709551616) := by show _ = _; rw [HC.out]; rfl
        have hwc : Hid (wb Z Y (j + 1) = -((Z j - Y j - c) / 18446744073709551616)) := by show _ = _; rw [HC.out]; exact wb_q x0 x1 y0 y1
        rw [← HYG.out j hm] at hcy
        obtain ⟨xj, hxj⟩ : ∃ xj, xj = Z j := ⟨_, rfl⟩
        obtain ⟨yj, hyj⟩ : ∃ yj, yj = Y j := ⟨_, rfl⟩
        rw [← hxj] at d1 x0 x1 hwd hwc
        rw [← hyj] at hcy y0 y1 hwd hwc
        clear hxj hyj hrow hgr
        go_wp2_with (simp only [sub64 xj yj c x0 x1 y0 y1 c0 c1])
        go_roundw
        case rel =>
          refine ⟨j + 1, by omega, by go_num, by rw [hwc.out], (HROW.out.set0 (by omega) _).congr fun i _ => ?_, HBLK.out.set _ _, gb_trans HGR.out (gb_set wr _ _)⟩
          by_cases e : i = j
          · rw [if_pos e, if_pos (by omega), e, hwd.out]
          · rw [if_neg e]
            by_cases e2 : i < j
            · rw [if_pos e2, if_pos (by omega)]
            · rw [if_neg e2, if_neg (by omega)]
        case measure => simp [intOf]; omega
      · by_cases hz : c = 0
        · subst hz
          have hfin : Hid (RowAt .u64 wr zb 0 n (we Z Y)) := HROW.out.congr fun i hi => by
            by_cases e : i < j
            · rw [if_pos e]
            · rw [if_neg e, (we_done HXB.out (k := j) (fun i hi => HY0.out i (by omega)) HC.out.symm i (by omega) hi).2]
          clear hrow hgr
          go_wp2_with fail
          (try simp only [Exit.inBlock, Exit.then])
          refine bodyPost_ret (results_none rfl _ _ _) rfl ?_
          exact ⟨rfl, HBLK.out, hfin.out, HGR.out⟩
        · have hnz : (c == 0) = false := beq_eq_false_iff_ne.2 hz
          clear hz
          obtain ⟨d1, d2⟩ := hrow.get0 (i := j) hj (x := Z j) (if_neg (by omega))
          obtain ⟨x0, x1⟩ := HXB.out j hj
          have hyz : Hid (Y j = 0) := HY0.out j (by omega)
          have hwd : Hid (we Z Y j = (Z j - 0 - c) % 18446744073709551616) := by show _ = _; rw [HC.out, ← hyz.out]; rfl
          have hwc : Hid (wb Z Y (j + 1) = -((Z j - 0 - c) / 18446744073709551616)) := by
            show _ = _; rw [HC.out, ← hyz.out]; exact wb_q x0 x1 (by rw [hyz.out]; omega) (by rw [hyz.out]; omega)
          obtain ⟨xj, hxj⟩ : ∃ xj, xj = Z j := ⟨_, rfl⟩
          rw [← hxj] at d1 x0 x1 hwd hwc
          clear hxj hrow hgr
          go_wp2_with (simp only [sub64 xj 0 c x0 x1 (Int.le_refl 0) (by decide) c0 c1])
          go_roundw
          case rel =>
            refine ⟨j + 1, by omega, by go_num, by rw [hwc.out]; simp, (HROW.out.set0 (by omega) _).congr fun i _ => ?_, HBLK.out.set _ _, gb_trans HGR.out (gb_set wr _ _)⟩
            by_cases e : i = j
            · rw [if_pos e, if_pos (by omega), e, hwd.out]; simp
            · rw [if_neg e]
              by_cases e2 : i < j
              · rw [if_pos e2, if_pos (by omega)]
              · rw [if_neg e2, if_neg (by omega)]
          case measure => simp [intOf]; omega
    · obtain rfl : j = n := by omega
      have hfin : Hid (RowAt .u64 wr zb 0 j (we Z Y)) := HROW.out.congr fun i hi => if_pos hi
      clear hrow hgr
      go_wp2_with fail
      go_end0
      exact ⟨rfl, HBLK.out, hfin.out, HGR.out⟩
structure FrR (w : World) (base zb n : Nat) (F : Nat → Int) : Prop where
  own : base ≤ zb
  blk : Blk w zb n 62
  row : RowAt .u64 w zb 0 n F
  bd : ∀ i, i < n → 0 ≤ F i ∧ F i < 18446744073709551616
theorem FrR.grown {w w' : World} {base zb n : Nat} {F : Nat → Int} (h : FrR w base zb n F) {r : Option Nat} (hg : w.grownBy w' r) (hr : some zb ≠ r) : FrR w' base zb n F :=
  ⟨h.own, h.blk.grown hg hr, h.row.gb hg hr, h.bd⟩
theorem FrR.below {w w' : World} {base zb n : Nat} {F : Nat → Int} (h : FrR w base zb n F) (hb : Below w.heap.size w w') : FrR w' base zb n F := h.grown (gb_below hb none) (by simp)
theorem FrR.rd {w : World} {base zb n : Nat} {F : Nat → Int} (h : FrR w base zb n F) (hn : n ≤ 17592186044416) : RdW w (.slice (some ⟨zb, 0, none⟩) n n) n F :=
  ⟨row_rd h.row hn, fun i hi => by have := h.bd i hi; omega⟩
theorem FrR.lt {w : World} {base zb n : Nat} {F : Nat → Int} (h : FrR w base zb n F) : zb < w.heap.size := h.blk.lt
theorem splice_zw (f : Nat → Int) {n K : Nat} (h : n ≤ K) : splice (madeCells #[Value.int .u64 0] K).toList 0 ((List.range n).map fun i => Value.int .u64 (f i)) = (List.range K).map fun i => Value.int .u64 (zw f n i) := by
  apply List.ext_getElem?
  intro i
  simp only [splice, madeCells, List.take_zero, List.nil_append, Nat.zero_add, List.length_map, List.length_range]
  by_cases hn : i < n
  · rw [List.getElem?_append_left (by simpa using hn)]
    simp [hn, show i < K by omega, zw]
  · rw [List.getElem?_append_right (by simpa using hn), List.getElem?_drop]
    rw [show n + (i - (List.map (fun i => Value.int IntKind.u64 (f i)) (List.range n)).length) = i by simp; omega]
    by_cases hi : i < K
    · simp [hi, hn, zw, Nat.mod_one]
    · simp [hi]
theorem RdW.old {w : World} {a : Option Addr} {m c : Nat} {g : Nat → Int} (h : RdW w (.slice a m c) m g) (hm : 0 < m) : ∀ b o, a = some ⟨b, o, none⟩ → b < w.heap.size := by
  intro b o e
  obtain ⟨⟨_, _, e2, -, -, k3⟩, -⟩ := h
  simp only [Value.slice.injEq, true_and] at e2
  obtain ⟨rfl, rfl⟩ := e2
  obtain ⟨b', o', e3, hc⟩ := k3 hm
  rw [e] at e3
  injection e3 with e3
  injection e3 with e3
  subst e3
  exact World.block_lt_of_cell? w ⟨b, o' + 0, none⟩ (hc 0 hm)
theorem two_fit {X Y : Int} {n m S : Nat} (hX : X < 18446744073709551616 ^ n) (hY : Y < 18446744073709551616 ^ m) (hn : n ≤ S) (hm : m ≤ S) : X + Y < 18446744073709551616 ^ (S + 1) := by
  have h1 := pow_le' (B := 18446744073709551616) (by omega) hn
  have h2 := pow_le' (B := 18446744073709551616) (by omega) hm
  have h3 := pow_pos' (show (0 : Int) < 18446744073709551616 by omega) S
  rw [Int.pow_succ]
  omega
theorem sum_any (ax ay : Option Addr) (n m cx cy : Nat) (f g : Nat → Int) (w : World) (hn : n ≤ 1099511627776) (hm : m ≤ 1099511627776) (hx : RdW w (.slice ax n cx) n f) (hy : RdW w (.slice ay m cy) m g) :
    Calls Try.prog 191 #[.slice ax n cx, .slice ay m cy] w fun e w' => ∃ zb F, e = .returned (.slice (some ⟨zb, 0, none⟩) (max n m + 1) (max n m + 1)) ∧ FrR w' w.heap.size zb (max n m + 1) F ∧
      dv 18446744073709551616 F (max n m + 1) = dv 18446744073709551616 f n + dv 18446744073709551616 g m ∧ Below w.heap.size w w' := by
  have hfw := words_bd hx.2
  have hgw := words_bd hy.2
  obtain ⟨_, _, e1, h1, h2, h3⟩ := wd_get hx.1
  simp only [Value.slice.injEq, true_and] at e1
  obtain ⟨rfl, rfl⟩ := e1
  obtain ⟨S, hS⟩ : ∃ S, S = max n m := ⟨_, rfl⟩
  rw [← hS]
  have hSn : n ≤ S := by omega
  have hSm : m ≤ S := by omega
  have hSb : S ≤ 1099511627776 := by omega
  have mk : ∀ u : World, (Instr.makeSlice 47 (.int .i64 ((S : Int) + 1)) (.int .i64 ((S : Int) + 1))).run Try.prog u =
      .ok (.slice (some ⟨u.heap.size, 0, none⟩) (S + 1) (S + 1)) (u.alloc (.cells (madeCells #[.int .u64 0] (S + 1)) 62)) := by
    rw [show (S : Int) + 1 = ((S + 1 : Nat) : Int) by omega]; exact mk_words (S + 1) (by omega)
  have k1 : (w.alloc (.cells (madeCells #[Value.int .u64 0] (S + 1)) 62)).heap[w.heap.size]? = some (.cells (madeCells #[Value.int .u64 0] (S + 1)).toList.toArray 62 (0, 0)) := by
    simpa using heap_alloc_new w (.cells (madeCells #[Value.int .u64 0] (S + 1)) 62)
  have k2 : ((List.range n).map fun i => Value.int .u64 (f i)).length = Nat.min n (S + 1) := by
    rw [List.length_map, List.length_range]; show n = min n (S + 1); omega
  have k6 : Below w.heap.size w (w.alloc (.cells (madeCells #[Value.int .u64 0] (S + 1)) 62)) := (Below.refl _ _).alloc (Nat.le_refl _) _
  have k3 : 0 < ((List.range n).map fun i => Value.int .u64 (f i)).length →
      ∃ ad, ax = some ad ∧ ∀ j u, ((List.range n).map fun i => Value.int .u64 (f i))[j]? = some u → (w.alloc (.cells (madeCells #[Value.int .u64 0] (S + 1)) 62)).cell? (ad.add j) = some u := by
    intro hp
    obtain ⟨b, o, rfl, _⟩ := h3 0 (by simp at hp; omega)
    refine ⟨⟨b, o, none⟩, rfl, fun j u hj => ?_⟩
    have hjm : j < n := by have := (List.getElem?_eq_some_iff.1 hj).1; simpa using this
    obtain ⟨b', o', e, hc⟩ := h3 j (by omega)
    injection e with e; injection e with e1 e2 _; subst e1; subst e2
    rw [Addr.add_lit]
    have : u = .int .u64 (f j) := by simp [hjm] at hj; exact hj.symm
    rw [this]
    exact cell_stays k6 hc
  have k4 : 0 + ((List.range n).map fun i => Value.int .u64 (f i)).length ≤ (madeCells #[Value.int .u64 0] (S + 1)).toList.length := by simp [madeCells]; omega
  have k5 : ∀ u ∈ ((List.range n).map fun i => Value.int .u64 (f i)), u.oneCell' = true := by
    intro u hu
    obtain ⟨i, _, rfl⟩ := List.mem_map.1 hu
    rfl
  have hmx : max (n : Int) m = (S : Int) := by omega
  have HFW := Lib.hid hfw
  have HGW := Lib.hid hgw
  have HX := Lib.hid hx
  have HY := Lib.hid hy
  have K1 := Lib.hid k1
  have K2 := Lib.hid k2
  have K3 := Lib.hid k3
  have K4 := Lib.hid k4
  have K5 := Lib.hid k5
  have K6 := Lib.hid k6
  have HS := Lib.hid hS
  clear k1 k2 k3 k4 k5 k6 hfw hgw hx hy hS h3
  go_enter Try.func191, Try.ntmps191
  go_wp2_with (with_reducible refine wpList_copy_splice (o := ⟨some 15, _, _, _, _, _⟩) rfl (.tmp 13) (.tmp 14) 47 47 rfl 62 Try.underlying47 infoW1 (some ⟨w.heap.size, 0, none⟩) ax (S + 1) (S + 1) n cx rfl rfl w.heap.size 0 (madeCells #[Value.int .u64 0] (S + 1)).toList 62 K1.out ((List.range n).map fun i => .int .u64 (f i)) K2.out (fun hp => ⟨rfl, K3.out hp⟩) K4.out K5.out w.heap.size w K6.out (Nat.le_refl _) ?_)
  · clear K1 K2 K3 K4 K5 K6
    intro w1 hw1 hb1
    have hcl : w1.heap[w.heap.size]? = some (.cells ((List.range (S + 1)).map fun i => Value.int .u64 (zw f n i)).toArray 62 (0, 0)) := by
      have := hw1.out
      rw [this, splice_zw f (by omega)]
    obtain ⟨c1, c2⟩ := cells_list hcl
    have hzb : ∀ i, i < S + 1 → 0 ≤ zw f n i ∧ zw f n i < 18446744073709551616 := fun i _ => zw_bd (by omega) HFW.out i
    have hadd := addTo_any w.heap.size 0 (S + 1) (S + 1) (S + 1) (zw f n) ay m cy g w1 (by omega) (by omega) (by omega) c1 c2 hzb (HY.out.below hb1) (fun hm b o e => by
      have := HY.out.old hm b o e
      omega)
    have HADD := Lib.hid hadd
    have HB1 := Lib.hid hb1
    clear hw1 hcl c1 c2 hadd hb1
    go_wp2_with (go_at_call 184; (with_reducible refine HADD.out.mono ?_); rintro e w2 ⟨rfl, hk2, hr2, hg2⟩)
    go_ret
    have hdv : dv 18446744073709551616 (adF (zw f n) g 0 m) (S + 1) = dv 18446744073709551616 f n + dv 18446744073709551616 g m := by
      have h1 := adF_dv (Z := zw f n) (g := g) (o := 0) (m := m) (r := S + 1) (fun i _ => zw_bd (by omega) HFW.out i) HGW.out (by omega)
      rw [Nat.zero_add, zw_dv (show n ≤ S + 1 by omega), Int.pow_zero, Int.one_mul] at h1
      exact h1 (two_fit (dv_bd (by omega) HFW.out).2 (dv_bd (by omega) HGW.out).2 hSn hSm)
    exact ⟨w.heap.size, _, rfl, ⟨Nat.le_refl _, hk2, hr2, fun i hi => adF_bd (n := S + 1) (fun i _ => zw_bd (by omega) HFW.out i) hi⟩, hdv, HB1.out.grown hg2 HB1.out.size (fun k hk => by injection hk with hk; omega)⟩
end Go.Proofs.Ytejliecmdkmgiaa
namespace Go.Proofs.Ytejliecmdkmgiaa
open Go.RowKit
theorem add64_z (x y s c : Int) (hx : 0 ≤ x) (hy : 0 ≤ y) (h1 : s = (x + y) % 18446744073709551616) (h2 : c = (x + y) / 18446744073709551616) (w : World) :
    (callFunc 180 #[.int .u64 x, .int .u64 y, .int .u64 0]).run Try.prog w = .ok (.value (.tuple #[.int .u64 s, .int .u64 c])) w := by
  subst h1 h2; exact add64_0 x y hx hy w
def rowp (F g : Nat → Int) (x : Int) (i j t : Nat) : Int := if i ≤ t ∧ t < i + j then md (fun k => F (i + k)) g x (t - i) else F t
theorem rows_any (zb n m K : Nat) (ax ay : Option Addr) (cx cy : Nat) (f g : Nat → Int) (w : World) (hK : n + m = K) (hKb : K ≤ 1099511627776) (hB : Blk w zb K 62) (hZ : RowAt .u64 w zb 0 K (fun _ => 0))
    (hx : RdW w (.slice ax n cx) n f) (hxo : 0 < n → ∀ b o, ax = some ⟨b, o, none⟩ → b ≠ zb) (hy : RdW w (.slice ay m cy) m g) (hyo : 0 < m → ∀ b o, ay = some ⟨b, o, none⟩ → b ≠ zb) :
    Calls Try.prog 183 #[.slice (some ⟨zb, 0, none⟩) K K, .slice ax n cx, .slice ay m cy] w fun e w' => e = .returned (.tuple #[]) ∧ w.grownBy w' (some zb) ∧ ∃ F, Blk w' zb K 62 ∧ RowAt .u64 w' zb 0 K F ∧
      (∀ i, i < K → 0 ≤ F i ∧ F i < 18446744073709551616) ∧ dv 18446744073709551616 F K = dv 18446744073709551616 f n * dv 18446744073709551616 g m := by
  have hfb := words_bd hx.2
  have hgb := words_bd hy.2
  obtain ⟨_, _, e1, f1, f2, f3⟩ := wd_get hx.1
  simp only [Value.slice.injEq, true_and] at e1
  obtain ⟨rfl, rfl⟩ := e1
  obtain ⟨_, _, e2, g1, g2, g3⟩ := wd_get hy.1
  simp only [Value.slice.injEq, true_and] at e2
  obtain ⟨rfl, rfl⟩ := e2
  have f3 : ∀ i, i < n → ∃ b o, ax = some ⟨b, o, none⟩ ∧ b ≠ zb ∧ w.cell? ⟨b, o + i, none⟩ = some (.int .u64 (f i)) := fun i hi => by
    obtain ⟨b, o, e, hc⟩ := f3 i hi
    exact ⟨b, o, e, hxo (by omega) b o e, hc⟩
  have g3 : ∀ i, i < m → ∃ b o, ay = some ⟨b, o, none⟩ ∧ b ≠ zb ∧ w.cell? ⟨b, o + i, none⟩ = some (.int .u64 (g i)) := fun i hi => by
    obtain ⟨b, o, e, hc⟩ := g3 i hi
    exact ⟨b, o, e, hyo (by omega) b o e, hc⟩
  have F3 := Lib.hid f3
  have G3 := Lib.hid g3
  have HZ := Lib.hid hZ
  have HB := Lib.hid hB
  have HFB := Lib.hid hfb
  have HGB := Lib.hid hgb
  have HK := Lib.hid hK
  have hnK : n ≤ K := by omega
  have hmK : m ≤ K := by omega
  clear f3 g3 hZ hB hfb hgb hx hy hxo hyo hK
  go_enter Try.func183, Try.ntmps183
  go_wp2_with fail
  go_loopw [16] (fun iv wr => ∃ (i : Nat) (F : Nat → Int), i ≤ n ∧ iv = .int .i64 i ∧ RowAt .u64 wr zb 0 K F ∧ Hid (∀ t, t < K → 0 ≤ F t ∧ F t < 18446744073709551616) ∧ Hid (∀ t, i + m ≤ t → F t = 0) ∧ Hid (dv 18446744073709551616 F (i + m) = dv 18446744073709551616 f i * dv 18446744073709551616 g m) ∧ Blk wr zb K 62 ∧ w.grownBy wr (some zb)) (fun iv _ => n - (intOf iv).toNat)
  case atStart => exact ⟨0, fun _ => 0, Nat.zero_le _, rfl, HZ.out, fun _ _ => ⟨Int.le_refl 0, by show (0 : Int) < _; decide⟩, fun _ _ => rfl, by show _ = _; rw [dv_zeros]; show _ = 0 * _; rw [Int.zero_mul], HB.out, gb_refl _ _⟩
  case round =>
    clear HZ HB
    obtain ⟨i, F, i1, rfl, hrow, hFb, hF0, hFv, hblk, hgr⟩ := hrel
    by_cases hi : i < n
    · obtain ⟨b1, o1, rfl, hne1, hcx⟩ := F3.out i hi
      have hcx := hgr.cell hcx (fun e => hne1 (Option.some.inj e))
      obtain ⟨x0, x1⟩ := HFB.out i hi
      obtain ⟨x, hxe⟩ : ∃ x, x = f i := ⟨_, rfl⟩
      rw [← hxe] at hcx x0 x1
      have HXE := Lib.hid hxe
      have HROW := Lib.hid hrow
      have HBLK := Lib.hid hblk
      have HGR := Lib.hid hgr
      clear hxe hrow hblk hgr
      by_cases hz : x = 0
      · have hzb : (x == 0) = true := beq_iff_eq.2 hz
        have hval : Hid (dv 18446744073709551616 F (i + 1 + m) = dv 18446744073709551616 f (i + 1) * dv 18446744073709551616 g m) := by
          show _ = _
          rw [show i + 1 + m = (i + m) + 1 by omega]
          simp only [dv]
          rw [hFv.out, hF0.out (i + m) (Nat.le_refl _), ← HXE.out, hz, Int.zero_mul, Int.zero_mul, Int.add_zero, Int.add_zero]
        clear hz
        go_wp2_with fail
        go_roundw
        case rel => exact ⟨i + 1, F, by omega, by go_num, HROW.out, hFb, fun t ht => hF0.out t (by omega), hval, HBLK.out, HGR.out⟩
        case measure => simp [intOf]; omega
      · have hzb : (x == 0) = false := beq_eq_false_iff_ne.2 hz
        clear hz
        obtain ⟨wo, hwo⟩ : ∃ wo, wo = wr := ⟨_, rfl⟩
        subst hwo
        go_wp2_with fail
        go_loopw [8, 25] (fun cv jv wr => ∃ j : Nat, j ≤ m ∧ jv = .int .i64 j ∧ cv = .int .u64 (mc (fun k => F (i + k)) g x j) ∧ RowAt .u64 wr zb 0 K (rowp F g x i j) ∧ Blk wr zb K 62 ∧ w.grownBy wr (some zb)) (fun _ jv _ => m - (intOf jv).toNat)
        case atStart => exact ⟨0, Nat.zero_le _, rfl, rfl, HROW.out.congr fun t _ => (if_neg (by omega)).symm, HBLK.out, HGR.out⟩
        case round =>
          clear HROW HBLK HGR hcx
          obtain ⟨j, j1, rfl, rfl, hrow, hblk, hgr⟩ := hrel
          obtain ⟨c0, c1⟩ := mc_bd (z := fun k => F (i + k)) (Y := g) ⟨x0, x1⟩ j (fun k hk => hFb.out _ (by have := HK.out; omega)) (fun k hk => HGB.out k (by omega))
          obtain ⟨c, hc⟩ : ∃ c, c = mc (fun k => F (i + k)) g x j := ⟨_, rfl⟩
          rw [← hc] at c0 c1 ⊢
          have HC := Lib.hid hc
          clear hc
          by_cases hj : j < m
          · have hij : i + j < K := by have := HK.out; omega
            obtain ⟨d1, d2⟩ := hrow.get0 (i := i + j) hij (x := F (i + j)) (if_neg (by omega))
            obtain ⟨b2, o2, rfl, hne2, hcy⟩ := G3.out j hj
            have hcy := hgr.cell hcy (fun e => hne2 (Option.some.inj e))
            obtain ⟨y0, y1⟩ := HGB.out j hj
            obtain ⟨z0, z1⟩ := hFb.out (i + j) hij
            have hmd : Hid (md (fun k => F (i + k)) g x j = (F (i + j) + x * g j + c) % 18446744073709551616) := by show _ = _; rw [HC.out]; rfl
            have hmc : Hid (mc (fun k => F (i + k)) g x (j + 1) = (F (i + j) + x * g j + c) / 18446744073709551616) := by show _ = _; rw [HC.out]; rfl
            obtain ⟨y, hye⟩ : ∃ y, y = g j := ⟨_, rfl⟩
            obtain ⟨z, hze⟩ : ∃ z, z = F (i + j) := ⟨_, rfl⟩
            rw [← hye] at hcy y0 y1 hmd hmc
            rw [← hze] at d1 z0 z1 hmd hmc
            obtain ⟨hi', e1⟩ : ∃ hi', hi' = x * y / 18446744073709551616 := ⟨_, rfl⟩
            obtain ⟨lo, e2⟩ : ∃ lo, lo = x * y % 18446744073709551616 := ⟨_, rfl⟩
            obtain ⟨l2, e3⟩ : ∃ l2, l2 = (lo + c) % 18446744073709551616 := ⟨_, rfl⟩
            obtain ⟨c2, e4⟩ : ∃ c2, c2 = (lo + c) / 18446744073709551616 := ⟨_, rfl⟩
            obtain ⟨l3, e5⟩ : ∃ l3, l3 = (z + l2) % 18446744073709551616 := ⟨_, rfl⟩
            obtain ⟨c3, e6⟩ : ∃ c3, c3 = (z + l2) / 18446744073709551616 := ⟨_, rfl⟩
            obtain ⟨s1, s2, s3, s4, s5⟩ := md_step ⟨z0, z1⟩ ⟨x0, x1⟩ ⟨y0, y1⟩ ⟨c0, c1⟩ e1 e2 e3 e4
            rw [← e5] at s3
            rw [← e6] at s4
            have hlo : 0 ≤ lo := by rw [e2]; omega
            have hl2 : 0 ≤ l2 := by rw [e3]; omega
            have s6 : 0 ≤ hi' + c2 + c3 := by omega
            have s7 : hi' + c2 + c3 < 18446744073709551616 := by omega
            have hmul := fun u => Mul64_any x y ⟨x0, x1⟩ ⟨y0, y1⟩ u
            rw [← e1, ← e2] at hmul
            have ha1 := add64_z lo c l2 c2 hlo c0 e3 e4
            have ha2 := add64_z z l2 l3 c3 z0 hl2 e5 e6
            have HMUL := Lib.hid hmul
            have HMD : Hid (md (fun k => F (i + k)) g x j = l3) := by show _ = _; rw [hmd.out, s3]
            have HMC : Hid (mc (fun k => F (i + k)) g x (j + 1) = hi' + c2 + c3) := by show _ = _; rw [hmc.out, s4]
            have HROW := Lib.hid hrow
            have HBLK := Lib.hid hblk
            have HGR := Lib.hid hgr
            clear hye hze e1 e2 e3 e4 e5 e6 s3 s4 s5 hmul hmd hmc hrow hblk hgr
            go_wp2_with (first
              | (go_at_call 125; (with_reducible refine (HMUL.out _).mono ?_); rintro e w' ⟨rfl, rfl⟩)
              | simp only [ha1]
              | simp only [ha2])
            go_roundw
            case rel =>
              refine ⟨j + 1, by omega, by go_num, by rw [HMC.out], (HROW.out.set0 hij _).congr fun t _ => ?_, HBLK.out.set _ _, gb_trans HGR.out (gb_set _ _ _)⟩
              show (if t = i + j then l3 else rowp F g x i j t) = rowp F g x i (j + 1) t
              unfold rowp
              by_cases e : t = i + j
              · rw [if_pos e, if_pos (by omega), e, show i + j - i = j by omega, HMD.out]
              · rw [if_neg e]
                by_cases e2 : i ≤ t ∧ t < i + j
                · rw [if_pos e2, if_pos (by omega)]
                · rw [if_neg e2, if_neg (by omega)]
            case measure => simp [intOf]; omega
          · obtain rfl : j = m := by omega
            have him : i + j < K := by have := HK.out; omega
            have h0 : F (i + j) = 0 := hF0.out (i + j) (Nat.le_refl _)
            obtain ⟨d1, d2⟩ := hrow.get0 (i := i + j) him (x := 0) (by unfold rowp; rw [if_neg (by omega)]; exact h0)
            have hg0 : RowAt .u64 (wr.setCell ⟨zb, i + j, none⟩ (.int .u64 c)) zb 0 K (rowz F g (f i) i j) := (hrow.set0 him c).congr fun t _ => by
              unfold rowp rowz
              rw [← HXE.out]
              by_cases e : t = i + j
              · rw [if_pos e, if_neg (by omega), if_pos e, HC.out]
              · rw [if_neg e]
                by_cases e2 : i ≤ t ∧ t < i + j
                · rw [if_pos e2, if_pos e2]
                · rw [if_neg e2, if_neg e2, if_neg e]
            have hFb' : ∀ t, t < K → 0 ≤ rowz F g (f i) i j t ∧ rowz F g (f i) i j t < 18446744073709551616 := fun t ht => by
              unfold rowz
              split
              · exact md_bd _ _ _ _
              · split
                · rw [← HXE.out, ← HC.out]; exact ⟨c0, c1⟩
                · exact hFb.out t ht
            have HG0 := Lib.hid hg0
            have HFB' := Lib.hid hFb'
            have HV' := Lib.hid (rowz_val (z := F) (Y := g) (X := f) (i := i) (m := j) (fun t ht => hF0.out t ht) hFv.out)
            have HBLK := Lib.hid (hblk.set (i + j) (.int .u64 c))
            have HGR := Lib.hid (gb_trans hgr (gb_set wr ⟨zb, i + j, none⟩ (.int .u64 c)))
            clear h0 hg0 hFb' hrow hblk hgr
            go_wp2_with fail
            go_roundw
            case rel => exact ⟨i + 1, _, by omega, by go_num, HG0.out, HFB'.out, fun t ht => by
              unfold rowz; rw [if_neg (by omega), if_neg (by omega)]; exact hF0.out t (by omega), HV'.out, HBLK.out, HGR.out⟩
            case measure => simp [intOf]; omega
    · obtain rfl : i = n := by omega
      have HROW := Lib.hid hrow
      have HBLK := Lib.hid hblk
      have HGR := Lib.hid hgr
      clear hrow hblk hgr
      go_wp2_with fail
      go_end0
      have e := HK.out
      subst e
      exact ⟨rfl, HGR.out, F, HBLK.out, HROW.out, hFb.out, hFv.out⟩
end Go.Proofs.Ytejliecmdkmgiaa
namespace Go.Proofs.Ytejliecmdkmgiaa
open Go.RowKit
theorem RdW.gb {w w' : World} {a : Option Addr} {n c d : Nat} {f : Nat → Int} (h : RdW w (.slice a n c) n f) (hg : w.grownBy w' (some d)) (hne : 0 < n → ∀ b o, a = some ⟨b, o, none⟩ → b ≠ d) : RdW w' (.slice a n c) n f := by
  obtain ⟨⟨a0, c0, e, k1, k2, k3⟩, hw⟩ := h
  simp only [Value.slice.injEq, true_and] at e
  obtain ⟨rfl, rfl⟩ := e
  refine ⟨⟨_, _, rfl, k1, k2, fun hp => ?_⟩, hw⟩
  obtain ⟨b, o, rfl, hc⟩ := k3 hp
  exact ⟨b, o, rfl, fun i hi => hg.cell (hc i hi) (fun e => hne hp b o rfl (Option.some.inj e))⟩
theorem FrR.cut {w : World} {base zb n : Nat} {F : Nat → Int} (h : FrR w base zb n F) (hn : n ≤ 17592186044416) : RdW w (.slice (some ⟨zb, 0, none⟩) (sz F n) (sz F n)) (sz F n) F := (h.rd hn).head (sz_le F n)
theorem dv_cut {n : Nat} (F : Nat → Int) : dv 18446744073709551616 F (sz F n) = dv 18446744073709551616 F n := (dv_more (sz_le F n) fun i h1 h2 => sz_above F n i h1 h2).symm
theorem some_ne {zb d : Nat} (h : zb ≠ d) : ∀ b o, (some ⟨zb, 0, none⟩ : Option Addr) = some ⟨b, o, none⟩ → b ≠ d := by
  intro b o e
  injection e with e
  injection e with e
  subst e; exact h
theorem wp_probe {P : Program} {w : World} {ops : Array Oper} {rest : List Oper} {o : Oper} {a : Act} {Q : Exit → Act → World → Prop} (hgd : o.guard = none) (h : wpList P ops Q (o :: rest) a w) : wpList P ops Q (o :: rest) a w := h
theorem gb_setRow (w : World) (g : Nat) (cs : Array Value) : w.grownBy (w.setRow g cs) (some g) :=
  ⟨rfl, rfl, rfl, by simp [World.setRow], fun k _ hr => setRow_other w g k cs (fun e => hr (by rw [e]))⟩
theorem wp_copyW {P : Program} {w : World} {ops : Array Oper} {rest : List Oper} {o : Oper} {a : Act} {Q : Exit → Act → World → Prop} (hgd : o.guard = none) (d s : Operand) (dT sT : TypeId)
    (ho : o.op = .call { callee := .builtin .copy, args := #[d, s], argTypes := #[dT, sT] }) (elem : TypeId) (hu : P.underlying dT = some (.slice elem)) (hsz : (P.info? elem).map (·.size) = some 1)
    (dp sp : Option Addr) (dLen dCap sLen sCap : Nat) (hd : a.eval d = .slice dp dLen dCap) (hs : a.eval s = .slice sp sLen sCap)
    (g off : Nat) (cur : List Value) (t : TypeId) (hg : w.heap[g]? = some (.cells cur.toArray t (0, 0))) (cs : List Value) (hn : cs.length = Nat.min sLen dLen)
    (hpos : 0 < cs.length → dp = some ⟨g, off, none⟩ ∧ ∃ ad, sp = some ad ∧ ∀ j v, cs[j]? = some v → w.cell? (ad.add j) = some v)
    (hfit : off + cs.length ≤ cur.length) (h1 : ∀ v ∈ cs, v.oneCell' = true)
    (h : ∀ w', Hid (w'.heap[g]? = some (.cells (splice cur off cs).toArray t (0, 0))) → w.grownBy w' (some g) → wpList P ops Q rest (a.put o.dst (goInt cs.length)) w') :
    wpList P ops Q (o :: rest) a w := by
  by_cases h0 : cs.length = 0
  · obtain rfl : cs = [] := List.eq_nil_of_length_eq_zero h0
    refine wpList_copy_nothing hgd d s dT sT ho elem hu hsz dp sp dLen dCap sLen sCap hd hs (by simpa using hn.symm) ?_
    exact h w (show _ = _ by simpa [splice] using hg) (gb_refl _ _)
  · obtain ⟨rfl, ad, rfl, hsrc⟩ := hpos (by omega)
    refine wpList_copy_own hgd d s dT sT ho elem hu hsz g off dLen dCap ad sLen sCap hd hs cur.toArray t hg cs hn hsrc (by simpa using hfit) h1 ?_
    exact h _ (show _ = _ by simpa [splice] using setRow_heap w g _ _ t _ hg) (gb_setRow w g _)
theorem row_cells {w : World} {b n : Nat} {e : TypeId} {F : Nat → Int} (h : Blk w b n e) (hr : RowAt .u64 w b 0 n F) : w.heap[b]? = some (.cells ((List.range n).map fun i => Value.int .u64 (F i)).toArray e (0, 0)) := by
  obtain ⟨cur, h, hs⟩ := h
  rw [h]
  congr 2
  apply Array.ext'
  apply List.ext_getElem?
  intro i
  by_cases hi : i < n
  · have := (hr i hi).1
    rw [Nat.zero_add, cell_of_row _ _ _ _ _ _ h] at this
    simp [hi, this]
  · rw [List.getElem?_eq_none (by simp; omega), List.getElem?_eq_none (by simp; omega)]
theorem splice_rows (F f : Nat → Int) {n K : Nat} (h : n ≤ K) : splice ((List.range K).map fun i => Value.int .u64 (F i)) 0 ((List.range n).map fun i => Value.int .u64 (f i)) = (List.range K).map fun i => Value.int .u64 (if i < n then f i else F i) := by
  apply List.ext_getElem?
  intro i
  simp only [splice, List.take_zero, List.nil_append, Nat.zero_add, List.length_map, List.length_range]
  by_cases hn : i < n
  · rw [List.getElem?_append_left (by simpa using hn)]
    simp [hn, show i < K by omega]
  · rw [List.getElem?_append_right (by simpa using hn), List.getElem?_drop]
    rw [show n + (i - (List.map (fun i => Value.int IntKind.u64 (f i)) (List.range n)).length) = i by simp; omega]
    by_cases hi : i < K
    · simp [hi, hn]
    · simp [hi]
theorem gb_beside {w0 w w' : World} {r : Option Nat} {z : Nat} (h : w0.grownBy w r) (hg : w.grownBy w' (some z)) (hz : w0.heap.size ≤ z) : w0.grownBy w' r :=
  ⟨hg.os.trans h.os, hg.tape.trans h.tape, hg.output.trans h.output, Nat.le_trans h.size hg.size, fun k hk hr => (hg.block k (Nat.lt_of_lt_of_le hk h.size) (fun e => by have := Option.some.inj e; omega)).trans (h.block k hk hr)⟩
def ProdP (N : Int) (k : Nat) (w : World) (e : Ending) (w' : World) : Prop := ∃ zb F K, e = .returned (.slice (some ⟨zb, 0, none⟩) K K) ∧ FrR w' w.heap.size zb K F ∧ K ≤ k ∧ dv 18446744073709551616 F K = N ∧ Below w.heap.size w w'
def ProdC (s : Nat) : Prop := ∀ (ax ay : Option Addr) (n m cx cy : Nat) (f g : Nat → Int) (w : World), n + m < s → n ≤ 274877906944 → m ≤ 274877906944 → RdW w (.slice ax n cx) n f → RdW w (.slice ay m cy) m g →
  Calls Try.prog 162 #[.slice ax n cx, .slice ay m cy] w (ProdP (dv 18446744073709551616 f n * dv 18446744073709551616 g m) (n + m) w)
theorem halves_ok {f g : Nat → Int} {la lb h K : Nat} (hf : ∀ i, i < la → 0 ≤ f i ∧ f i < 18446744073709551616) (hg : ∀ i, i < lb → 0 ≤ g i ∧ g i < 18446744073709551616) (h1 : h ≤ la) (h2 : h ≤ lb) (hK : la + lb = K)
    {A0 A1 B0 B1 : Int} (eA0 : A0 = dv 18446744073709551616 f h) (eA1 : A1 = dv 18446744073709551616 (fun i => f (h + i)) (la - h)) (eB0 : B0 = dv 18446744073709551616 g h) (eB1 : B1 = dv 18446744073709551616 (fun i => g (h + i)) (lb - h)) :
    0 ≤ A0 * B0 ∧ 0 ≤ A1 * B1 ∧ A0 * B0 ≤ (A0 + A1) * (B0 + B1) ∧ A1 * B1 ≤ (A0 + A1) * (B0 + B1) - A0 * B0 ∧ 0 ≤ (A0 + A1) * (B0 + B1) - A0 * B0 - A1 * B1 ∧
      A0 * B0 + 18446744073709551616 ^ (2 * h) * (A1 * B1) + 18446744073709551616 ^ h * ((A0 + A1) * (B0 + B1) - A0 * B0 - A1 * B1) = dv 18446744073709551616 f la * dv 18446744073709551616 g lb ∧
      dv 18446744073709551616 f la * dv 18446744073709551616 g lb < 18446744073709551616 ^ K ∧
      A0 * B0 + 18446744073709551616 ^ (2 * h) * (A1 * B1) ≤ dv 18446744073709551616 f la * dv 18446744073709551616 g lb ∧
      (A0 + A1) * (B0 + B1) - A0 * B0 - A1 * B1 < 18446744073709551616 ^ (K - h) := by
  have b0 := (dv_bd (B := 18446744073709551616) (by omega) (fun i hi => hf i (show i < la by omega)) (n := h)).1
  have b1 := (dv_bd (B := 18446744073709551616) (by omega) (fun i hi => hf (h + i) (show h + i < la by omega)) (f := fun i => f (h + i)) (n := la - h)).1
  have b2 := (dv_bd (B := 18446744073709551616) (by omega) (fun i hi => hg i (show i < lb by omega)) (n := h)).1
  have b3 := (dv_bd (B := 18446744073709551616) (by omega) (fun i hi => hg (h + i) (show h + i < lb by omega)) (f := fun i => g (h + i)) (n := lb - h)).1
  rw [← eA0] at b0
  rw [← eA1] at b1
  rw [← eB0] at b2
  rw [← eB1] at b3
  have ef : dv 18446744073709551616 f la = A0 + 18446744073709551616 ^ h * A1 := by
    obtain ⟨d, rfl⟩ : ∃ d, la = h + d := ⟨la - h, by omega⟩
    rw [dv_split, eA0, eA1, Nat.add_sub_cancel_left]
  have eg : dv 18446744073709551616 g lb = B0 + 18446744073709551616 ^ h * B1 := by
    obtain ⟨d, rfl⟩ : ∃ d, lb = h + d := ⟨lb - h, by omega⟩
    rw [dv_split, eB0, eB1, Nat.add_sub_cancel_left]
  obtain ⟨c1, c2, c3, c4, c5⟩ := kara_nn b0 b1 b2 b3
  have hp := pow_pos' (show (0 : Int) < 18446744073709551616 by omega) h
  have ek : A0 * B0 + 18446744073709551616 ^ (2 * h) * (A1 * B1) + 18446744073709551616 ^ h * ((A0 + A1) * (B0 + B1) - A0 * B0 - A1 * B1) = dv 18446744073709551616 f la * dv 18446744073709551616 g lb := by
    rw [ef, eg, ← kara, Nat.mul_comm, Int.pow_mul, Int.pow_succ, Int.pow_succ, Int.pow_zero, Int.one_mul]
  have hlt : dv 18446744073709551616 f la * dv 18446744073709551616 g lb < 18446744073709551616 ^ K := by
    rw [← hK]; exact (mul_lt_pow (dv_bd (by omega) hf) (dv_bd (by omega) hg)).2
  have hm : 0 ≤ 18446744073709551616 ^ h * ((A0 + A1) * (B0 + B1) - A0 * B0 - A1 * B1) := Int.mul_nonneg (by omega) c5
  have hm2 : 0 ≤ 18446744073709551616 ^ (2 * h) * (A1 * B1) := Int.mul_nonneg (by have := pow_pos' (show (0 : Int) < 18446744073709551616 by omega) (2 * h); omega) c2
  refine ⟨c1, c2, c3, c4, c5, ek, hlt, by omega, ?_⟩
  refine Int.lt_of_mul_lt_mul_left (a := 18446744073709551616 ^ h) ?_ (by omega)
  rw [← Int.pow_add, show h + (K - h) = K by omega]
  omega
theorem halves_any (s zb la lb K : Nat) (ax ay : Option Addr) (cx cy : Nat) (f g : Nat → Int) (w : World) (IH : ProdC s) (hs : s = la + lb) (hK : la + lb = K) (hKb : K ≤ 549755813888) (hla : la ≤ 274877906944) (hlb : 24 ≤ lb) (hle : lb ≤ la) (hlt : la < 2 * lb)
    (hB : Blk w zb K 62) (hZ : RowAt .u64 w zb 0 K (fun _ => 0)) (hx : RdW w (.slice ax la cx) la f) (hxo : ∀ b o, ax = some ⟨b, o, none⟩ → b ≠ zb) (hy : RdW w (.slice ay lb cy) lb g) (hyo : ∀ b o, ay = some ⟨b, o, none⟩ → b ≠ zb) :
    Calls Try.prog 185 #[.slice (some ⟨zb, 0, none⟩) K K, .slice ax la cx, .slice ay lb cy] w fun e w' => e = .returned (.tuple #[]) ∧ w.grownBy w' (some zb) ∧ ∃ F, Blk w' zb K 62 ∧ RowAt .u64 w' zb 0 K F ∧
      (∀ i, i < K → 0 ≤ F i ∧ F i < 18446744073709551616) ∧ dv 18446744073709551616 F K = dv 18446744073709551616 f la * dv 18446744073709551616 g lb := by
  have hzlt := hB.lt
  have hfb := words_bd hx.2
  have hgb := words_bd hy.2
  obtain ⟨_, _, e1, f1, f2, -⟩ := wd_get hx.1
  simp only [Value.slice.injEq, true_and] at e1
  obtain ⟨rfl, rfl⟩ := e1
  obtain ⟨_, _, e2, g1, g2, -⟩ := wd_get hy.1
  simp only [Value.slice.injEq, true_and] at e2
  obtain ⟨rfl, rfl⟩ := e2
  obtain ⟨h, hh⟩ : ∃ h, h = (la + 1) / 2 := ⟨_, rfl⟩
  have h1 : 2 * h ≤ la + 1 := by omega
  have h2 : la ≤ 2 * h := by omega
  have h3 : ((la : Int) + 1) / 2 = (h : Int) := by omega
  have h4 : h ≤ la := by omega
  have h5 : h ≤ lb := by omega
  have ha0 := (headW ax la cx h h4 f1 f2)
  have hb0 := (headW ay lb cy h h5 g1 g2)
  obtain ⟨a1, sa1, sa2, ra1, oa1, -⟩ := fromW ax la cx h h4 f1 hx
  obtain ⟨b1, sb1, sb2, rb1, ob1, -⟩ := fromW ay lb cy h h5 g1 hy
  have ra0 := hx.head h4
  have rb0 := hy.head h5
  have key := halves_ok hfb hgb h4 h5 hK rfl rfl rfl rfl
  have hKs : K - 2 * h + 2 * h = K := by omega
  obtain ⟨A0, eA0⟩ : ∃ A0, A0 = dv 18446744073709551616 f h := ⟨_, rfl⟩
  obtain ⟨A1, eA1⟩ : ∃ A1, A1 = dv 18446744073709551616 (fun i => f (h + i)) (la - h) := ⟨_, rfl⟩
  obtain ⟨B0, eB0⟩ : ∃ B0, B0 = dv 18446744073709551616 g h := ⟨_, rfl⟩
  obtain ⟨B1, eB1⟩ : ∃ B1, B1 = dv 18446744073709551616 (fun i => g (h + i)) (lb - h) := ⟨_, rfl⟩
  rw [← eA0, ← eA1, ← eB0, ← eB1] at key
  obtain ⟨T, hT⟩ : ∃ T, T = dv 18446744073709551616 f la * dv 18446744073709551616 g lb := ⟨_, rfl⟩
  rw [← hT] at key ⊢
  have KEY := Lib.hid key
  have EA := Lib.hid (And.intro eA0 (And.intro eA1 (And.intro eB0 eB1)))
  have RA0 := Lib.hid ra0
  have RB0 := Lib.hid rb0
  have RA1 := Lib.hid ra1
  have RB1 := Lib.hid rb1
  have HB := Lib.hid hB
  have HZ := Lib.hid hZ
  have HIH := Lib.hid IH
  have HO := Lib.hid (And.intro hxo (And.intro hyo (And.intro oa1 ob1)))
  have HKK := Lib.hid hK
  have HS := Lib.hid hs
  have hlh : la - h ≤ h := by omega
  have hlh2 : lb - h ≤ h := by omega
  clear key eA0 eA1 eB0 eB1 ra0 rb0 ra1 rb1 hB hZ IH hxo hyo oa1 ob1 hh hfb hgb hT hK hs hx hy
  obtain ⟨sa, sa'⟩ := ha0
  obtain ⟨sb, sb'⟩ := hb0
  go_enter Try.func185, Try.ntmps185
  go_wp2_with fail
  go_region
  all_goals
    go_wp2_with fail
    go_region
    all_goals
      have hbl0 : Below w.heap.size w w.drew.drew := ((Below.refl _ w).drew).drew
      have hsz0 : w.drew.drew.heap.size = w.heap.size := rfl
      have RA0 : Hid (RdW w.drew.drew (.slice ax h h) h f) := RA0
      have RB0 : Hid (RdW w.drew.drew (.slice ay h h) h g) := RB0
      have RA1 : Hid (RdW w.drew.drew (.slice a1 (la - h) (cx - h)) (la - h) fun i => f (h + i)) := RA1
      have RB1 : Hid (RdW w.drew.drew (.slice b1 (lb - h) (cy - h)) (lb - h) fun i => g (h + i)) := RB1
      have HZ := Lib.hid (show FrR w.drew.drew 0 zb K (fun _ => 0) from ⟨Nat.zero_le _, HB.out, HZ.out, fun _ _ => ⟨Int.le_refl 0, by show (0 : Int) < _; decide⟩⟩)
      have HG := Lib.hid (gb_below hbl0 (some zb))
      clear hbl0 HB
      generalize w.drew.drew = w0 at *
      rw [← hsz0] at hzlt
      -- the low halves
      go_wp2_with fail
      (refine (HIH.out ax ay h h h h f g w0 (by have := HS.out; omega) (by omega) (by omega) RA0.out RB0.out).mono ?_)
      rintro e w1 ⟨z1, F1, K1, rfl, p1, k1, v1, hb1⟩
      have HT := Lib.hid (mtrim_any (some ⟨z1, 0, none⟩) K1 K1 F1 w1 (p1.rd (by omega)).1)
      have D1 := Lib.hid (dig_sz p1.bd)
      have Q1 := Lib.hid (p1.cut (by omega))
      have V1 := Lib.hid (show dv 18446744073709551616 F1 K1 = A0 * B0 by rw [v1, ← EA.out.1, ← EA.out.2.2.1])
      have n1 : zb < z1 := Nat.lt_of_lt_of_le hzlt p1.own
      have n1' : z1 < w1.heap.size := p1.lt
      have m1 : w.heap.size ≤ z1 := by have := p1.own; omega
      have l1 := sz_le F1 K1
      obtain ⟨j1, hj1⟩ : ∃ j1, j1 = sz F1 K1 := ⟨_, rfl⟩
      rw [← hj1] at HT D1 Q1 l1
      have RA0 := Lib.hid (RA0.out.below hb1)
      have RB0 := Lib.hid (RB0.out.below hb1)
      have RA1 := Lib.hid (RA1.out.below hb1)
      have RB1 := Lib.hid (RB1.out.below hb1)
      have HZ := Lib.hid (HZ.out.below hb1)
      have HSZ := Lib.hid hb1.size
      have HG := Lib.hid (gb_trans HG.out (gb_below hb1 _))
      clear p1 v1 hb1 hj1
      go_wp2_with (go_at_call 182; (with_reducible refine HT.out.mono ?_); rintro e w' ⟨rfl, rfl⟩)
      clear HT
      -- the high halves
      (refine (HIH.out a1 b1 (la - h) (lb - h) (cx - h) (cy - h) _ _ w1 (by have := HS.out; omega) (by omega) (by omega) RA1.out RB1.out).mono ?_)
      rintro e w2 ⟨z2, F2, K2, rfl, p2, k2, v2, hb2⟩
      have HT := Lib.hid (mtrim_any (some ⟨z2, 0, none⟩) K2 K2 F2 w2 (p2.rd (by omega)).1)
      have D2 := Lib.hid (dig_sz p2.bd)
      have Q2 := Lib.hid (p2.cut (by omega))
      have V2 := Lib.hid (show dv 18446744073709551616 F2 K2 = A1 * B1 by rw [v2, ← EA.out.2.1, ← EA.out.2.2.2])
      have n2 : z1 < z2 := Nat.lt_of_lt_of_le n1' p2.own
      have n2' : z2 < w2.heap.size := p2.lt
      have l2 := sz_le F2 K2
      obtain ⟨j2, hj2⟩ : ∃ j2, j2 = sz F2 K2 := ⟨_, rfl⟩
      rw [← hj2] at HT D2 Q2 l2
      have Q1 := Lib.hid (Q1.out.below hb2)
      have RA0 := Lib.hid (RA0.out.below hb2)
      have RB0 := Lib.hid (RB0.out.below hb2)
      have RA1 := Lib.hid (RA1.out.below hb2)
      have RB1 := Lib.hid (RB1.out.below hb2)
      have HZ := Lib.hid (HZ.out.below hb2)
      have HG := Lib.hid (gb_trans HG.out (gb_below hb2 _))
      clear p2 v2 hb2 hj2
      go_wp2_with (go_at_call 182; (with_reducible refine HT.out.mono ?_); rintro e w' ⟨rfl, rfl⟩)
      clear HT
      -- the sums of the halves
      have hs1 := sum_any ax a1 h (la - h) h (cx - h) f _ w2 (by omega) (by omega) RA0.out RA1.out
      rw [show max h (la - h) = h by omega, ← EA.out.1, ← EA.out.2.1] at hs1
      (refine hs1.mono ?_)
      rintro e w3 ⟨z3, F3, rfl, p3, v3, hb3⟩
      have Q1 := Lib.hid (Q1.out.below hb3)
      have Q2 := Lib.hid (Q2.out.below hb3)
      have RB0 := Lib.hid (RB0.out.below hb3)
      have RB1 := Lib.hid (RB1.out.below hb3)
      have HZ := Lib.hid (HZ.out.below hb3)
      have HG := Lib.hid (gb_trans HG.out (gb_below hb3 _))
      have n3 : z2 < w3.heap.size := Nat.lt_of_lt_of_le n2' hb3.size
      have Q3 := Lib.hid (p3.rd (by omega))
      have V3 := Lib.hid v3
      clear hs1 p3 v3 hb3 RA0 RA1
      go_wp2_with fail
      have hs2 := sum_any ay b1 h (lb - h) h (cy - h) g _ w3 (by omega) (by omega) RB0.out RB1.out
      rw [show max h (lb - h) = h by omega, ← EA.out.2.2.1, ← EA.out.2.2.2] at hs2
      (refine hs2.mono ?_)
      rintro e w4 ⟨z4, F4, rfl, p4, v4, hb4⟩
      have Q1 := Lib.hid (Q1.out.below hb4)
      have Q2 := Lib.hid (Q2.out.below hb4)
      have Q3 := Lib.hid (Q3.out.below hb4)
      have HZ := Lib.hid (HZ.out.below hb4)
      have HG := Lib.hid (gb_trans HG.out (gb_below hb4 _))
      have n4 : z2 < w4.heap.size := Nat.lt_of_lt_of_le n3 hb4.size
      have Q4 := Lib.hid (p4.rd (by omega))
      have V4 := Lib.hid v4
      clear hs2 p4 v4 hb4 RB0 RB1
      go_wp2_with fail
      (refine (HIH.out (some ⟨z3, 0, none⟩) (some ⟨z4, 0, none⟩) (h + 1) (h + 1) (h + 1) (h + 1) F3 F4 w4 (by have := HS.out; omega) (by omega) (by omega) Q3.out Q4.out).mono ?_)
      rintro e w5 ⟨z5, F5, K5, rfl, p5, k5, v5, hb5⟩
      have Q1 := Lib.hid (Q1.out.below hb5)
      have Q2 := Lib.hid (Q2.out.below hb5)
      have HZ := Lib.hid (HZ.out.below hb5)
      have HG := Lib.hid (gb_trans HG.out (gb_below hb5 _))
      have n5 : z2 < z5 := Nat.lt_of_lt_of_le n4 p5.own
      have P5 := Lib.hid p5
      have V5 := Lib.hid (show dv 18446744073709551616 F5 K5 = (A0 + A1) * (B0 + B1) by rw [v5, V3.out, V4.out])
      have hw5 : w.heap.size ≤ z5 := by omega
      clear p5 v5 hb5 Q3 Q4 V3 V4 HIH EA
      -- the middle: both products taken off
      have i1 : j1 ≤ K5 := D1.out.len (by omega) (by rw [V1.out]; exact Int.lt_of_le_of_lt KEY.out.2.2.1 (by rw [← V5.out]; exact (dv_bd (by omega) P5.out.bd).2))
      have i2 : j2 ≤ K5 := D2.out.len (by omega) (by
        rw [V2.out]
        have := KEY.out.2.2.2.1
        have := KEY.out.1
        exact Int.lt_of_le_of_lt (show A1 * B1 ≤ (A0 + A1) * (B0 + B1) by omega) (by rw [← V5.out]; exact (dv_bd (by omega) P5.out.bd).2))
      have hsb := subFrom_any z5 K5 K5 F5 (some ⟨z1, 0, none⟩) j1 j1 F1 w5 (by omega) P5.out.blk P5.out.row P5.out.bd Q1.out (fun _ => some_ne (by omega))
      have hv6 : dv 18446744073709551616 (we F5 (zw F1 j1)) K5 = (A0 + A1) * (B0 + B1) - A0 * B0 := by
        rw [we_val P5.out.bd (fun i _ => zw_bd (by omega) D1.out.bd i) (by rw [zw_dv i1, D1.out.val, V1.out, V5.out]; exact KEY.out.2.2.1), zw_dv i1, D1.out.val, V1.out, V5.out]
      have HSB := Lib.hid hsb
      have V6 := Lib.hid hv6
      clear hsb hv6 P5 V5
      go_wp2_with fail
      (refine HSB.out.mono ?_)
      rintro e w6 ⟨rfl, bk6, r6, g6⟩
      have Q2 := Lib.hid (Q2.out.gb g6 (fun _ => some_ne (by omega)))
      have Q1 := Lib.hid (Q1.out.gb g6 (fun _ => some_ne (by omega)))
      have HZ := Lib.hid (HZ.out.grown g6 (fun e => by have := Option.some.inj e; omega))
      have HG := Lib.hid (gb_beside HG.out g6 hw5)
      have hsb := subFrom_any z5 K5 K5 (we F5 (zw F1 j1)) (some ⟨z2, 0, none⟩) j2 j2 F2 w6 (by omega) bk6 r6 (fun i _ => we_bd _ _ i) Q2.out (fun _ => some_ne (by omega))
      have hv7 : dv 18446744073709551616 (we (we F5 (zw F1 j1)) (zw F2 j2)) K5 = (A0 + A1) * (B0 + B1) - A0 * B0 - A1 * B1 := by
        rw [we_val (fun i _ => we_bd _ _ i) (fun i _ => zw_bd (by omega) D2.out.bd i) (by rw [zw_dv i2, D2.out.val, V2.out, V6.out]; exact KEY.out.2.2.2.1), zw_dv i2, D2.out.val, V2.out, V6.out]
      have HSB := Lib.hid hsb
      have V7 := Lib.hid hv7
      clear hsb hv7 bk6 r6 g6 V6
      go_wp2_with fail
      (refine HSB.out.mono ?_)
      rintro e w7 ⟨rfl, bk7, r7, g7⟩
      have Q2 := Lib.hid (Q2.out.gb g7 (fun _ => some_ne (by omega)))
      have Q1 := Lib.hid (Q1.out.gb g7 (fun _ => some_ne (by omega)))
      have HZ := Lib.hid (HZ.out.grown g7 (fun e => by have := Option.some.inj e; omega))
      have HG := Lib.hid (gb_beside HG.out g7 hw5)
      obtain ⟨F7, hF7⟩ : ∃ F7, F7 = we (we F5 (zw F1 j1)) (zw F2 j2) := ⟨_, rfl⟩
      have b7 : ∀ i, i < K5 → 0 ≤ F7 i ∧ F7 i < 18446744073709551616 := fun i _ => by rw [hF7]; exact we_bd _ _ i
      rw [← hF7] at r7 V7
      have P7 := Lib.hid (show FrR w7 0 z5 K5 F7 from ⟨Nat.zero_le _, bk7, r7, b7⟩)
      clear HSB bk7 r7 g7 hF7 b7
      -- the low product is laid down
      have c1 := row_cells HZ.out.blk HZ.out.row
      have c2 : ((List.range j1).map fun i => Value.int .u64 (F1 i)).length = Nat.min j1 K := by
        rw [List.length_map, List.length_range]; show j1 = min j1 K; have := HKK.out; omega
      have c3 : 0 < ((List.range j1).map fun i => Value.int .u64 (F1 i)).length →
          ∃ ad, (some ⟨z1, 0, none⟩ : Option Addr) = some ad ∧ ∀ j u, ((List.range j1).map fun i => Value.int .u64 (F1 i))[j]? = some u → w7.cell? (ad.add j) = some u := by
        intro hp
        refine ⟨⟨z1, 0, none⟩, rfl, fun j u hj => ?_⟩
        have hjm : j < j1 := by have := (List.getElem?_eq_some_iff.1 hj).1; simpa using this
        obtain ⟨⟨_, _, e2, -, -, k3⟩, -⟩ := Q1.out
        simp only [Value.slice.injEq, true_and] at e2
        obtain ⟨rfl, rfl⟩ := e2
        obtain ⟨b', o', e3, hc⟩ := k3 (by omega)
        injection e3 with e3
        injection e3 with e3 e4
        subst e3 e4
        rw [Addr.add_lit]
        have : u = .int .u64 (F1 j) := by simp [hjm] at hj; exact hj.symm
        rw [this]
        exact hc j hjm
      have c4 : 0 + ((List.range j1).map fun i => Value.int .u64 (F1 i)).length ≤ ((List.range K).map fun i => Value.int .u64 ((fun _ => 0 : Nat → Int) i)).length := by simp; have := HKK.out; omega
      have c5 : ∀ u ∈ ((List.range j1).map fun i => Value.int .u64 (F1 i)), u.oneCell' = true := by
        intro u hu
        obtain ⟨i, _, rfl⟩ := List.mem_map.1 hu
        rfl
      have C1 := Lib.hid c1
      have C2 := Lib.hid c2
      have C3 := Lib.hid c3
      have C4 := Lib.hid c4
      have C5 := Lib.hid c5
      clear c1 c2 c3 c4 c5
      obtain ⟨az, sz1, sz2, -, -, oz⟩ := fromW (some ⟨zb, 0, none⟩) K K (2 * h) (by have := HKK.out; omega) (Nat.le_refl _) (HZ.out.rd (by omega))
      have oz := oz (by have := HKK.out; omega) zb 0 rfl
      subst oz
      rw [show ((2 * h : Nat) : Int) = 2 * (h : Int) by omega] at sz1 sz2
      go_wp2_with ((with_reducible refine wp_probe (o := ⟨some 55, _, _, _, _, _⟩) rfl ?_); go_must (refine wp_copyW (o := ⟨some 55, _, _, _, _, _⟩) rfl (.tmp 53) (.tmp 54) 47 47 rfl 62 Try.underlying47 infoW1 (some ⟨zb, 0, none⟩) (some ⟨z1, 0, none⟩) K K j1 j1 rfl rfl zb 0 ((List.range K).map fun i => Value.int .u64 ((fun _ => 0 : Nat → Int) i)) 62 C1.out ((List.range j1).map fun i => .int .u64 (F1 i)) C2.out (fun hp => ⟨rfl, C3.out hp⟩) C4.out C5.out ?_))
      intro w8 hw8 g8
      have hw8 := hw8.out
      rw [splice_rows (fun _ => 0) F1 (by have := HKK.out; omega)] at hw8
      obtain ⟨bk8, r8⟩ := cells_list hw8
      have b8 : ∀ i, i < K → 0 ≤ (if i < j1 then F1 i else 0) ∧ (if i < j1 then F1 i else 0) < 18446744073709551616 := fun i _ => by
        split
        · exact D1.out.bd i (by assumption)
        · omega
      have v8 : dv 18446744073709551616 (fun i => if i < j1 then F1 i else 0) K = A0 * B0 := by
        rw [← V1.out, ← D1.out.val]; exact zw_dv (f := F1) (by have := HKK.out; omega)
      obtain ⟨F8, hF8⟩ : ∃ F8, F8 = fun i => if i < j1 then F1 i else 0 := ⟨_, rfl⟩
      rw [← hF8] at v8
      have b8 : ∀ i, i < K → 0 ≤ F8 i ∧ F8 i < 18446744073709551616 := by rw [hF8]; exact b8
      have r8 : RowAt .u64 w8 zb 0 K F8 := by rw [hF8]; exact r8
      have Q2 := Lib.hid (Q2.out.gb g8 (fun _ => some_ne (by omega)))
      have P7 := Lib.hid (P7.out.grown g8 (fun e => by have := Option.some.inj e; omega))
      have HG := Lib.hid (gb_trans HG.out g8)
      have hv2 : dv 18446744073709551616 F2 j2 = A1 * B1 := by rw [D2.out.val, V2.out]
      have fit2 : dv 18446744073709551616 F8 K + 18446744073709551616 ^ (2 * h) * dv 18446744073709551616 F2 j2 < 18446744073709551616 ^ K := by
        rw [v8, hv2]; exact Int.lt_of_le_of_lt KEY.out.2.2.2.2.2.2.2.1 KEY.out.2.2.2.2.2.2.1
      have had := addTo_any zb (2 * h) (K - 2 * h) (K - 2 * h) K F8 (some ⟨z2, 0, none⟩) j2 j2 F2 w8 (by omega) (by omega) (by have := HKK.out; omega) bk8 r8 b8 Q2.out (fun _ => some_ne (by omega))
      have hv9 : dv 18446744073709551616 (adF F8 F2 (2 * h) j2) K = A0 * B0 + 18446744073709551616 ^ (2 * h) * (A1 * B1) := by
        have e := adF_dv (Z := F8) (g := F2) (o := 2 * h) (m := j2) (r := K - 2 * h) (fun i hi => b8 i (by omega)) D2.out.bd (by have := HKK.out; omega)
        rw [show 2 * h + (K - 2 * h) = K by omega] at e
        rw [e fit2, v8, hv2]
      have b9 : ∀ i, i < K → 0 ≤ adF F8 F2 (2 * h) j2 i ∧ adF F8 F2 (2 * h) j2 i < 18446744073709551616 := fun i hi => adF_bd b8 hi
      have HAD := Lib.hid had
      have V9 := Lib.hid hv9
      have B9 := Lib.hid b9
      generalize adF F8 F2 (2 * h) j2 = F9 at HAD V9 B9
      rw [show (0 : Nat) + 2 * h = 2 * h by omega] at sz1 sz2
      clear hw8 g8 C1 C2 C3 C4 C5 HZ bk8 r8 b8 v8 hF8 fit2 had hv9 b9 hv2 Q1
      go_wp2_with fail
      (refine HAD.out.mono ?_)
      rintro e w9 ⟨rfl, bk9, r9, g9⟩
      have P7 := P7.out.grown g9 (fun e => by have := Option.some.inj e; omega)
      have HG := Lib.hid (gb_trans HG.out g9)
      have HZ9 : FrR w9 0 zb K F9 := ⟨Nat.zero_le _, bk9, r9, B9.out⟩
      obtain ⟨az, tz1, tz2, -, -, oz⟩ := fromW (some ⟨zb, 0, none⟩) K K h (by have := HKK.out; omega) (Nat.le_refl _) (HZ9.rd (by omega))
      have oz := oz (by have := HKK.out; omega) zb 0 rfl
      subst oz
      rw [Nat.zero_add] at tz1 tz2
      have htr := fun u : World => mtrim_any (some ⟨z5, 0, none⟩) K5 K5 F7 u
      have rd7 := (P7.rd (by omega)).1
      have d7 := dig_sz P7.bd
      have q7 := P7.cut (by omega)
      have j7 : sz F7 K5 ≤ K - h := d7.len (by omega) (by rw [V7.out]; exact KEY.out.2.2.2.2.2.2.2.2)
      have hv := V7.out
      have hdv : dv 18446744073709551616 F7 (sz F7 K5) = (A0 + A1) * (B0 + B1) - A0 * B0 - A1 * B1 := by rw [dv_cut, hv]
      generalize sz F7 K5 = j5 at *
      have fit : dv 18446744073709551616 F9 K + 18446744073709551616 ^ h * dv 18446744073709551616 F7 j5 < 18446744073709551616 ^ K := by
        rw [V9.out, hdv, KEY.out.2.2.2.2.2.1]; exact KEY.out.2.2.2.2.2.2.1
      have hadd := addTo_any zb h (K - h) (K - h) K F9 (some ⟨z5, 0, none⟩) j5 j5 F7 w9 (by have := HKK.out; omega) (by omega) j7 bk9 r9 B9.out q7 (fun _ => some_ne (by omega))
      have hvf : dv 18446744073709551616 (adF F9 F7 h j5) K = T := by
        have e := adF_dv (Z := F9) (g := F7) (o := h) (m := j5) (r := K - h) (fun i hi => B9.out i (by omega)) d7.bd j7
        rw [show h + (K - h) = K by have := HKK.out; omega] at e
        rw [e fit, V9.out, hdv, KEY.out.2.2.2.2.2.1]
      have bf : ∀ i, i < K → 0 ≤ adF F9 F7 h j5 i ∧ adF F9 F7 h j5 i < 18446744073709551616 := fun i hi => adF_bd B9.out hi
      have HTR := Lib.hid (htr w9 rd7)
      have HTR' := Lib.hid (htr w9.drew rd7)
      have HAD1 := Lib.hid hadd
      have hadd' := addTo_any zb h (K - h) (K - h) K F9 (some ⟨z5, 0, none⟩) j5 j5 F7 w9.drew (by have := HKK.out; omega) (by omega) j7 bk9 r9 B9.out q7 (fun _ => some_ne (by omega))
      have HAD2 := Lib.hid hadd'
      have HVF := Lib.hid hvf
      have HBF := Lib.hid bf
      clear HAD bk9 r9 g9 P7 HZ9 htr rd7 d7 q7 hv hdv fit hadd hadd' hvf bf sz1 sz2 sa sa' sb sb'
      go_wp2_with fail
      go_region_held3 (fun _ => True) (trivial)
        (first
          | (go_at_call 182; (with_reducible refine HTR.out.mono ?_); rintro e w' ⟨rfl, rfl⟩)
          | (go_at_call 182; (with_reducible refine HTR'.out.mono ?_); rintro e w' ⟨rfl, rfl⟩)
          | (go_at_call 184; (with_reducible refine HAD1.out.mono ?_); rintro e w10 ⟨rfl, bk10, r10, g10⟩)
          | (go_at_call 184; (with_reducible refine HAD2.out.mono ?_); rintro e w10 ⟨rfl, bk10, r10, g10⟩))
      all_goals
        go_wp2_with fail
        go_end0
        first
          | exact ⟨rfl, gb_trans HG.out (gb_trans (gb_drew _ _) g10), _, bk10, r10, HBF.out, HVF.out⟩
          | exact ⟨rfl, gb_trans HG.out g10, _, bk10, r10, HBF.out, HVF.out⟩
end Go.Proofs.Ytejliecmdkmgiaa
namespace Go.Proofs.Ytejliecmdkmgiaa
open Go.RowKit
theorem ProdC.le {s t : Nat} (h : ProdC s) (ht : t ≤ s) : ProdC t := fun ax ay n m cx cy f g w h1 => h ax ay n m cx cy f g w (by omega)
theorem prod_step {wr w2 : World} {base zb K i e lb z2 K2 : Nat} {F F2 f g : Nat → Int} (hp : FrR wr base zb K F) (hb : Below wr.heap.size wr w2) (p2 : FrR w2 wr.heap.size z2 K2 F2) (hKb : K ≤ 17592186044416) (hK2 : K2 ≤ 17592186044416) (hie : i ≤ e) (he : e + lb ≤ K)
    (hf : ∀ t, t < e → 0 ≤ f t ∧ f t < 18446744073709551616) (hg : ∀ t, t < lb → 0 ≤ g t ∧ g t < 18446744073709551616)
    (hF : dv 18446744073709551616 F K = dv 18446744073709551616 f i * dv 18446744073709551616 g lb) (hF2 : dv 18446744073709551616 F2 K2 = dv 18446744073709551616 (fun t => f (i + t)) (e - i) * dv 18446744073709551616 g lb) :
    Calls Try.prog 184 #[.slice (some ⟨zb, i, none⟩) (K - i) (K - i), .slice (some ⟨z2, 0, none⟩) (sz F2 K2) (sz F2 K2)] w2 fun x w' => x = .returned (.tuple #[]) ∧ w2.grownBy w' (some zb) ∧
      ∃ F', FrR w' base zb K F' ∧ dv 18446744073709551616 F' K = dv 18446744073709551616 f e * dv 18446744073709551616 g lb := by
  have hq := hp.below hb
  have hzz : zb ≠ z2 := by have := hp.lt; have := p2.own; omega
  have hfe : dv 18446744073709551616 f e = dv 18446744073709551616 f i + 18446744073709551616 ^ i * dv 18446744073709551616 (fun t => f (i + t)) (e - i) := by
    obtain ⟨d, rfl⟩ : ∃ d, e = i + d := ⟨e - i, by omega⟩
    rw [dv_split, Nat.add_sub_cancel_left]
  have hlt := (mul_lt_pow (n := e) (m := lb) (dv_bd (by omega) hf) (dv_bd (by omega) hg))
  have hle := pow_le' (B := 18446744073709551616) (by omega) he
  have hval : dv 18446744073709551616 F K + 18446744073709551616 ^ i * (dv 18446744073709551616 (fun t => f (i + t)) (e - i) * dv 18446744073709551616 g lb) = dv 18446744073709551616 f e * dv 18446744073709551616 g lb := by
    rw [hF, hfe]; grind
  have hd := dig_sz p2.bd
  have hj : sz F2 K2 ≤ K - i := hd.len (by omega) (by
    rw [hF2]
    have h1 := (mul_lt_pow (n := e - i) (m := lb) (dv_bd (by omega) (f := fun t => f (i + t)) (fun t ht => hf (i + t) (by omega))) (dv_bd (by omega) hg)).2
    exact Int.lt_of_lt_of_le h1 (pow_le' (by omega) (by omega)))
  have hcut := dv_cut (n := K2) F2
  rw [hF2] at hcut
  refine (addTo_any zb i (K - i) (K - i) K F (some ⟨z2, 0, none⟩) _ _ F2 w2 (by omega) (by omega) hj hq.blk hq.row hq.bd (p2.cut hK2) (fun _ => some_ne (fun h => hzz h.symm))).mono ?_
  rintro x w' ⟨rfl, h1, h2, h3⟩
  refine ⟨rfl, h3, _, ⟨hp.own, h1, h2, fun t ht => adF_bd hp.bd ht⟩, ?_⟩
  have := adF_dv (Z := F) (g := F2) (o := i) (m := sz F2 K2) (r := K - i) (fun t ht => hp.bd t (by omega)) hd.bd hj
  rw [show i + (K - i) = K by omega, hcut, hval] at this
  exact this (by omega)
theorem product_step (s : Nat) (IH : ProdC s) (ax ay : Option Addr) (n m cx cy : Nat) (f g : Nat → Int) (w : World) (hs : n + m ≤ s) (hn : n ≤ 274877906944) (hm : m ≤ 274877906944) (hx : RdW w (.slice ax n cx) n f) (hy : RdW w (.slice ay m cy) m g) :
    Calls Try.prog 162 #[.slice ax n cx, .slice ay m cy] w (ProdP (dv 18446744073709551616 f n * dv 18446744073709551616 g m) (n + m) w) := by
  obtain ⟨T, hT⟩ : ∃ T, T = dv 18446744073709551616 f n * dv 18446744073709551616 g m := ⟨_, rfl⟩
  rw [← hT]
  have t1 := mtrim_any ax n cx f w hx.1
  have t2 := mtrim_any ay m cy g w hy.1
  have rx := hx.head (sz_le f n)
  have ry := hy.head (sz_le g m)
  have l1 := sz_le f n
  have l2 := sz_le g m
  rw [← dv_cut f, ← dv_cut g] at hT
  generalize sz f n = p at *
  generalize sz g m = q at *
  have T1 := Lib.hid t1
  have T2 := Lib.hid t2
  have RX := Lib.hid rx
  have RY := Lib.hid ry
  have HT := Lib.hid hT
  have HIH := Lib.hid IH
  clear t1 t2 rx ry hT hx hy IH
  go_enter Try.func162, Try.ntmps162
  go_upto_if 16 with (first
      | (go_at_call 182; (with_reducible refine T1.out.mono ?_); rintro e w' ⟨rfl, rfl⟩)
      | (go_at_call 182; (with_reducible refine T2.out.mono ?_); rintro e w' ⟨rfl, rfl⟩))
  go_cut [0, 1] (fun va vb wx => w = wx ∧ ∃ (la lb : Nat) (a' b' : Option Addr) (f' g' : Nat → Int), va = .slice a' la la ∧ vb = .slice b' lb lb ∧ lb ≤ la ∧ la ≤ 274877906944 ∧ la + lb ≤ n + m ∧ RdW w va la f' ∧ RdW w vb lb g' ∧ T = dv 18446744073709551616 f' la * dv 18446744073709551616 g' lb)
  case first =>
    by_cases h : p < q
    · go_wp2_with fail
      go_meet
      exact ⟨rfl, q, p, _, _, g, f, rfl, rfl, by omega, by omega, by omega, RY.out, RX.out, by rw [HT.out, Int.mul_comm]⟩
    · go_wp2_with fail
      go_meet
      exact ⟨rfl, p, q, _, _, f, g, rfl, rfl, by omega, by omega, by omega, RX.out, RY.out, HT.out⟩
  case rest =>
    obtain ⟨rfl, la, lb, a', b', f', g', rfl, rfl, hle, hlab, hsum, hx, hy, hT⟩ := hcut
    clear T1 T2 RX RY HT l1 l2
    have hfb := words_bd hx.2
    have hgb := words_bd hy.2
    obtain ⟨K, hK⟩ : ∃ K, K = la + lb := ⟨_, rfl⟩
    have hKb : K ≤ 549755813888 := by omega
    have mk : ∀ u : World, (Instr.makeSlice 47 (.int .i64 ((la : Int) + lb)) (.int .i64 ((la : Int) + lb))).run Try.prog u =
        .ok (.slice (some ⟨u.heap.size, 0, none⟩) K K) (u.alloc (.cells (madeCells #[.int .u64 0] K) 62)) := by
      rw [show (la : Int) + lb = (K : Int) by omega]; exact mk_words K (by omega)
    have hb1 : Below w.heap.size w (w.alloc (.cells (madeCells #[.int .u64 0] K) 62)) := (Below.refl _ _).alloc (Nat.le_refl _) _
    have hx1 := hx.below hb1
    have hy1 := hy.below hb1
    have hxo : 0 < la → ∀ b o, a' = some ⟨b, o, none⟩ → b ≠ w.heap.size := fun hp b o e => by have := hx.old hp b o e; omega
    have hyo : 0 < lb → ∀ b o, b' = some ⟨b, o, none⟩ → b ≠ w.heap.size := fun hp b o e => by have := hy.old hp b o e; omega
    have hr0 := (CellsAt.row (f := fun _ => 0) (CellsAt.made w (.int .u64 0) K 62))
    have hk0 := Blk.made w (.int .u64 0) K 62
    have HX := Lib.hid hx1
    have HY := Lib.hid hy1
    have HXO := Lib.hid hxo
    have HYO := Lib.hid hyo
    have HR0 := Lib.hid hr0
    have HK0 := Lib.hid hk0
    have HB1 := Lib.hid hb1
    have HT := Lib.hid hT
    have HFB := Lib.hid hfb
    have HGB := Lib.hid hgb
    have HKK := Lib.hid hK
    clear hx hy hx1 hy1 hxo hyo hr0 hk0 hb1 hT hfb hgb hK
    by_cases hsh : lb < 24
    · have hrows := rows_any w.heap.size la lb K a' b' la lb f' g' _ HKK.out.symm (by omega) HK0.out HR0.out HX.out HXO.out HY.out HYO.out
      have HRW := Lib.hid hrows
      clear hrows
      go_wp2_with fail
      (refine HRW.out.mono ?_)
      rintro e w2 ⟨rfl, hg, F, bk, r, bd, v⟩
      have hb := Lib.hid (HB1.out.grown hg (by simp) (fun k hk => by injection hk with hk; omega))
      have hf := Lib.hid (show FrR w2 w.heap.size w.heap.size K F from ⟨Nat.le_refl _, bk, r, bd⟩)
      have hv := Lib.hid v
      clear hg bk r bd v
      go_wp2_with fail
      go_ret
      exact ⟨_, F, K, rfl, hf.out, by have := HKK.out; omega, by rw [hv.out, HT.out], hb.out⟩
    · by_cases h2 : 2 * lb ≤ la
      · have h2' : (2 : Int) * lb ≤ la := by omega
        have h0 := Lib.hid (show FrR (w.alloc (.cells (madeCells #[.int .u64 0] K) 62)) w.heap.size w.heap.size K (fun _ => 0) from ⟨Nat.le_refl _, HK0.out, HR0.out, fun _ _ => ⟨Int.le_refl 0, by show (0 : Int) < _; decide⟩⟩)
        clear HK0 HR0
        go_wp2_with fail
        clear mk
        have hsz : w.heap.size < (w.alloc (.cells (madeCells #[.int .u64 0] K) 62)).heap.size := by simp
        generalize w.alloc (.cells (madeCells #[.int .u64 0] K) 62) = w1 at h0 HB1 HX HY HXO HYO hsz ⊢
        go_loopw [6] (fun iv wr => ∃ (i : Nat) (F : Nat → Int), i ≤ la + lb ∧ iv = .int .i64 i ∧ FrR wr w.heap.size w.heap.size K F ∧ Hid (dv 18446744073709551616 F K = dv 18446744073709551616 f' (min i la) * dv 18446744073709551616 g' lb) ∧ w1.grownBy wr (some w.heap.size)) (fun iv _ => la + lb - (intOf iv).toNat)
        case atStart => exact ⟨0, fun _ => 0, by omega, rfl, h0.out, by show _ = _; rw [dv_zeros, Nat.zero_min]; show _ = 0 * _; rw [Int.zero_mul], gb_refl _ _⟩
        case round =>
          clear h0
          obtain ⟨i, F, i1, rfl, hfr, hFv, hgr⟩ := hrel
          by_cases hi : i < la
          · obtain ⟨e, he⟩ : ∃ e, e = min (i + lb) la := ⟨_, rfl⟩
            have he1 : min ((i : Int) + lb) la = (e : Int) := by omega
            have he2 : i ≤ e := by omega
            have he3 : e ≤ la := by omega
            have he4 : e - i ≤ lb := by omega
            have he5 : min (i + lb) la = e := he.symm
            have hFv : Hid (dv 18446744073709551616 F K = dv 18446744073709551616 f' i * dv 18446744073709551616 g' lb) := by have := hFv.out; rwa [show min i la = i by omega] at this
            have hx' := HX.out.gb hgr HXO.out
            have hy' := HY.out.gb hgr HYO.out
            have hKe := HKK.out
            obtain ⟨ax2, sx1, sx2, rx2, -⟩ := cutW a' la la i e he2 he3 (Nat.le_refl _) (by omega) hx'
            obtain ⟨az, tz1, tz2, -, -, oz⟩ := fromW (some ⟨w.heap.size, 0, none⟩) K K i (by omega) (Nat.le_refl _) (hfr.rd (by omega))
            have oz := oz (by omega) w.heap.size 0 rfl
            subst oz
            rw [Nat.zero_add] at tz1 tz2
            have hp1 := HIH.out ax2 b' (e - i) lb (e - i) lb (fun t => f' (i + t)) g' wr (by omega) (by omega) (by omega) rx2 hy'
            have hp2 := HIH.out ax2 b' (e - i) lb (e - i) lb (fun t => f' (i + t)) g' wr.drew (by omega) (by omega) (by omega) rx2 hy'
            have HP1 := Lib.hid hp1
            have HP2 := Lib.hid hp2
            have HFR := Lib.hid hfr
            have HGR := Lib.hid hgr
            have HE := Lib.hid he5
            clear hp1 hp2 hfr hgr rx2 hx' hy' he he5 hKe
            go_wp2_with fail
            go_region_held3 (fun _ => True) (trivial)
              (first
                | (go_at_call 162; (first | (with_reducible refine HP1.out.mono ?_) | (with_reducible refine HP2.out.mono ?_)); rintro x w2 ⟨z2, F2, K2, rfl, p2, k2, v2, hb2⟩
                   have hbx : Below wr.heap.size wr w2 := by first | exact hb2 | exact below_drew hb2
                   have px : FrR w2 wr.heap.size z2 K2 F2 := p2
                   have HTR := Lib.hid (mtrim_any (some ⟨z2, 0, none⟩) K2 K2 F2 w2 (px.rd (by omega)).1)
                   have HAD := Lib.hid (prod_step HFR.out hbx px (by omega) (by omega) he2 (by have := HKK.out; omega) (fun t ht => HFB.out t (by omega)) HGB.out hFv.out v2)
                   have HBX := Lib.hid hbx
                   clear hb2 p2 hbx px v2)
                | (go_at_call 182; (with_reducible refine HTR.out.mono ?_); rintro x w' ⟨rfl, rfl⟩)
                | (go_at_call 184; (with_reducible refine HAD.out.mono ?_); rintro x w10 ⟨rfl, g10, F', p10, v10⟩))
            all_goals
              go_wp2_with fail
              go_roundw
              case rel => exact ⟨i + lb, F', by omega, by go_num, p10, by show _ = _; rw [HE.out]; exact v10, gb_trans (gb_trans HGR.out (gb_below HBX.out _)) g10⟩
              case measure => simp [intOf]; omega
          · have HV := Lib.hid (show dv 18446744073709551616 F K = T by rw [hFv.out, show min i la = la by omega, HT.out])
            have HFR := Lib.hid hfr
            have HB := Lib.hid (HB1.out.grown hgr (by omega) (fun k hk => by injection hk with hk; omega))
            clear hfr hgr
            go_wp2_with fail
            go_ret
            exact ⟨_, F, K, rfl, HFR.out, by have := HKK.out; omega, HV.out, HB.out⟩
      · have h2' : (la : Int) < 2 * lb := by omega
        have hh := halves_any (la + lb) w.heap.size la lb K a' b' la lb f' g' _ (HIH.out.le (by omega)) rfl HKK.out.symm hKb hlab (by omega) hle (by omega) HK0.out HR0.out HX.out (HXO.out (by omega)) HY.out (HYO.out (by omega))
        have HRW := Lib.hid hh
        clear hh
        go_wp2_with fail
        (refine HRW.out.mono ?_)
        rintro e w2 ⟨rfl, hg, F, bk, r, bd, v⟩
        have hb := Lib.hid (HB1.out.grown hg (by simp) (fun k hk => by injection hk with hk; omega))
        have hf := Lib.hid (show FrR w2 w.heap.size w.heap.size K F from ⟨Nat.le_refl _, bk, r, bd⟩)
        have hv := Lib.hid v
        clear hg bk r bd v
        go_wp2_with fail
        go_ret
        exact ⟨_, F, K, rfl, hf.out, by have := HKK.out; omega, by rw [hv.out, HT.out], hb.out⟩
theorem product_any (ax ay : Option Addr) (n m cx cy : Nat) (f g : Nat → Int) (w : World) (hn : n ≤ 274877906944) (hm : m ≤ 274877906944) (hx : RdW w (.slice ax n cx) n f) (hy : RdW w (.slice ay m cy) m g) :
    Calls Try.prog 162 #[.slice ax n cx, .slice ay m cy] w (ProdP (dv 18446744073709551616 f n * dv 18446744073709551616 g m) (n + m) w) := by
  have h : ∀ s, ProdC s := by
    intro s
    induction s with
    | zero => intro _ _ n m _ _ _ _ _ h; omega
    | succ s ih => exact fun ax ay n m cx cy f g w h h1 h2 h3 h4 => product_step s ih ax ay n m cx cy f g w (by omega) h1 h2 h3 h4
  exact product_step (n + m) (h _) ax ay n m cx cy f g w (Nat.le_refl _) hn hm hx hy
theorem natLeast_fr (v : Value) (n : Nat) (f : Nat → Int) (w : World) (hr : RdW w v n f) :
    Calls Try.prog 107 #[v] w fun e w' => ∃ v', e = .returned v' ∧ FrN w' w.heap.size v' (natFrom f 0 n) ∧ Below w.heap.size w w' := by
  have hn := sz_le f n
  have hb : n ≤ 17592186044416 := by obtain ⟨a, cap, -, -, h, -⟩ := hr.1; exact h
  refine (natLeast_any v n f w hr.1).mono ?_
  rintro e w' ⟨b, rfl, h1, h2, h3, h4⟩
  exact ⟨_, rfl, ⟨sz f n, f, Or.inr ⟨b, sz f n, rfl, Nat.le_refl _, by omega, h1, h2, h3⟩, by rw [natFrom_dv0]; exact dig_sz (words_bd hr.2)⟩, h4⟩
theorem natMul_any (x y : Value) (n m : Nat) (f g : Nat → Int) (w : World) (hn : n ≤ 274877906944) (hm : m ≤ 274877906944) (hx : RdW w x n f) (hy : RdW w y m g) :
    Calls Try.prog 108 #[x, y] w fun e w' => ∃ v, e = .returned v ∧ FrN w' w.heap.size v (natFrom f 0 n * natFrom g 0 m) ∧ Below w.heap.size w w' := by
  obtain ⟨ax, cx, rfl, -⟩ := hx.1
  obtain ⟨ay, cy, rfl, -⟩ := hy.1
  have hp := product_any ax ay n m cx cy f g w hn hm hx hy
  rw [← natFrom_dv0, ← natFrom_dv0] at hp
  generalize natFrom f 0 n * natFrom g 0 m = T at *
  have HP := Lib.hid hp
  clear hp hx hy
  go_enter Try.func108, Try.ntmps108
  go_wp2_with fail
  (refine HP.out.mono ?_)
  rintro e w1 ⟨zb, F, K, rfl, h1, h2, h3, h4⟩
  have hl := natLeast_fr _ K F w1 (h1.rd (by omega))
  rw [natFrom_dv0, h3] at hl
  have HL := Lib.hid hl
  have HB := Lib.hid h4
  clear hl h1 h3 h4 HP
  go_wp2_with fail
  (refine HL.out.mono ?_)
  rintro e w2 ⟨v, rfl, hf, hb⟩
  obtain ⟨a, n', c, F', rfl, hf1, hf2⟩ := hf.nat
  have HF := Lib.hid (show FrN w2 w.heap.size _ T from ⟨n', F', hf1.mono HB.out.size, hf2⟩)
  have HB2 := Lib.hid (HB.out.trans (hb.mono HB.out.size))
  clear hf hb hf1 hf2 HL
  go_wp2_with fail
  go_ret
  exact ⟨_, rfl, HF.out, HB2.out⟩
end Go.Proofs.Ytejliecmdkmgiaa
namespace Go.Proofs.Ytejliecmdkmgiaa
open Go.RowKit
def ovr (U F : Nat → Int) (o n t : Nat) : Int := if o ≤ t ∧ t < o + n then F (t - o) else U t
theorem ovr_step {U F : Nat → Int} {o n : Nat} {x : Int} (hx : x = F n) (t : Nat) : (if t = o + n then x else ovr U F o n t) = ovr U F o (n + 1) t := by
  unfold ovr
  by_cases e : t = o + n
  · rw [if_pos e, if_pos (by omega), hx, e, show o + n - o = n by omega]
  · rw [if_neg e]
    by_cases e2 : o ≤ t ∧ t < o + n
    · rw [if_pos e2, if_pos (by omega)]
    · rw [if_neg e2, if_neg (by omega)]
theorem ovr_at {U F : Nat → Int} {o n : Nat} : ovr U F o n (o + n) = U (o + n) := if_neg (by omega)
theorem take_any (ub j n T cu : Nat) (U : Nat → Int) (av : Option Addr) (cv : Nat) (v : Nat → Int) (d : Int) (w : World) (hT : j + n + 1 ≤ T) (hTb : T ≤ 17592186044416) (hd : 0 ≤ d ∧ d < 18446744073709551616)
    (hB : Blk w ub T 62) (hU : RowAt .u64 w ub 0 T U) (hUb : ∀ i, i < T → 0 ≤ U i ∧ U i < 18446744073709551616) (hv : RdW w (.slice av n cv) n v) (hvo : 0 < n → ∀ b o, av = some ⟨b, o, none⟩ → b ≠ ub) :
    Calls Try.prog 198 #[.slice (some ⟨ub, j, none⟩) (n + 1) cu, .slice av n cv, .int .u64 d] w fun e w' => e = .returned (.bool (wb (fun i => U (j + i)) (prw v d n) (n + 1) != 0)) ∧
      Blk w' ub T 62 ∧ RowAt .u64 w' ub 0 T (ovr U (we (fun i => U (j + i)) (prw v d n)) j (n + 1)) ∧ w.grownBy w' (some ub) := by
  obtain ⟨_, _, e2, g1, g2, g3⟩ := wd_get hv.1
  simp only [Value.slice.injEq, true_and] at e2
  obtain ⟨rfl, rfl⟩ := e2
  have hvb := words_bd hv.2
  obtain ⟨X, hX⟩ : ∃ X, X = fun i => U (j + i) := ⟨_, rfl⟩
  rw [← hX]
  have hXb : ∀ i, i < n + 1 → 0 ≤ X i ∧ X i < 18446744073709551616 := fun i hi => by rw [hX]; exact hUb (j + i) (by omega)
  have hXe : ∀ i, U (j + i) = X i := fun i => by rw [hX]
  have hPb := prw_bd (v := v) (n := n) hd hvb
  have g3 : ∀ i, i < n → ∃ b o, av = some ⟨b, o, none⟩ ∧ b ≠ ub ∧ w.cell? ⟨b, o + i, none⟩ = some (.int .u64 (v i)) := fun i hi => by
    obtain ⟨b, o, e, hc⟩ := g3 i hi
    exact ⟨b, o, e, hvo (by omega) b o e, hc⟩
  obtain ⟨d0, d1⟩ := hd
  have G3 := Lib.hid g3
  have HU := Lib.hid hU
  have HB := Lib.hid hB
  have HXB := Lib.hid hXb
  have HXE := Lib.hid hXe
  have HVB := Lib.hid hvb
  have HPB := Lib.hid hPb
  clear g3 hU hB hXb hXe hvb hPb hv hvo hX hUb
  go_enter Try.func198, Try.ntmps198
  go_wp2_with fail
  go_loopw [7, 8, 16] (fun cv bv iv wr => ∃ i : Nat, i ≤ n ∧ iv = .int .i64 i ∧ cv = .int .u64 (mc (fun _ => 0) v d i) ∧ bv = .int .u64 (wb X (prw v d n) i) ∧ RowAt .u64 wr ub 0 T (ovr U (we X (prw v d n)) j i) ∧ Blk wr ub T 62 ∧ w.grownBy wr (some ub)) (fun _ _ iv _ => n - (intOf iv).toNat)
  case atStart => exact ⟨0, Nat.zero_le _, rfl, rfl, rfl, HU.out.congr fun i _ => (if_neg (by omega)).symm, HB.out, gb_refl _ _⟩
  case round =>
    clear HU HB
    obtain ⟨i, i1, rfl, rfl, rfl, hrow, hblk, hgr⟩ := hrel
    obtain ⟨c0, c1⟩ := mc_bd (z := fun _ => 0) (Y := v) ⟨d0, d1⟩ i (fun _ _ => ⟨Int.le_refl 0, by show (0 : Int) < _; decide⟩) (fun k hk => HVB.out k (by omega))
    obtain ⟨b0, b1⟩ := wb_bd X (prw v d n) i
    obtain ⟨c, hc⟩ : ∃ c, c = mc (fun _ => 0) v d i := ⟨_, rfl⟩
    obtain ⟨b, hb⟩ : ∃ b, b = wb X (prw v d n) i := ⟨_, rfl⟩
    rw [← hc] at c0 c1 ⊢
    rw [← hb] at b0 b1 ⊢
    have HC := Lib.hid hc
    have HBW := Lib.hid hb
    clear hc hb
    obtain ⟨x0, x1⟩ := HXB.out i (by omega)
    obtain ⟨p0, p1⟩ := HPB.out i
    obtain ⟨f1, f2⟩ := hrow.get0 (i := j + i) (by omega) (x := X i) (by rw [ovr_at, HXE.out])
    have hwe : Hid (we X (prw v d n) i = (X i - prw v d n i - b) % 18446744073709551616) := by show _ = _; rw [HBW.out]; rfl
    have hwb : Hid (wb X (prw v d n) (i + 1) = -((X i - prw v d n i - b) / 18446744073709551616)) := by show _ = _; rw [HBW.out]; exact wb_q x0 x1 p0 p1
    obtain ⟨xi, hxi⟩ : ∃ xi, xi = X i := ⟨_, rfl⟩
    rw [← hxi] at f1 x0 x1 hwe hwb
    have HROW := Lib.hid hrow
    have HBLK := Lib.hid hblk
    have HGR := Lib.hid hgr
    by_cases hi : i < n
    · obtain ⟨bb, o, rfl, hne, hcy⟩ := G3.out i hi
      have hcy := hgr.cell hcy (fun e => hne (Option.some.inj e))
      obtain ⟨y0, y1⟩ := HVB.out i hi
      have hpm : prw v d n i = md (fun _ => 0) v d i := if_pos hi
      have hmd : md (fun _ => 0) v d i = (0 + d * v i + c) % 18446744073709551616 := by rw [HC.out]; rfl
      have hmc : Hid (mc (fun _ => 0) v d (i + 1) = (0 + d * v i + c) / 18446744073709551616) := by show _ = _; rw [HC.out]; rfl
      obtain ⟨y, hye⟩ : ∃ y, y = v i := ⟨_, rfl⟩
      rw [← hye] at hcy y0 y1 hmd hmc
      obtain ⟨hi', e1⟩ : ∃ hi', hi' = d * y / 18446744073709551616 := ⟨_, rfl⟩
      obtain ⟨lo, e2⟩ : ∃ lo, lo = d * y % 18446744073709551616 := ⟨_, rfl⟩
      obtain ⟨l2, e3⟩ : ∃ l2, l2 = (lo + c) % 18446744073709551616 := ⟨_, rfl⟩
      obtain ⟨c2, e4⟩ : ∃ c2, c2 = (lo + c) / 18446744073709551616 := ⟨_, rfl⟩
      obtain ⟨s1, s2, s3, s4, s5⟩ := md_step (z := 0) ⟨Int.le_refl 0, by decide⟩ ⟨d0, d1⟩ ⟨y0, y1⟩ ⟨c0, c1⟩ e1 e2 e3 e4
      have hlo : 0 ≤ lo := by rw [e2]; omega
      have hl2 : 0 ≤ l2 ∧ l2 < 18446744073709551616 := by rw [e3]; omega
      have hl3 : prw v d n i = l2 := by rw [hpm, hmd, ← s3]; omega
      have hs4 : hi' + c2 = (0 + d * y + c) / 18446744073709551616 := by rw [← s4]; omega
      rw [hl3] at hwe hwb p0 p1
      have hmul := Mul64_any d y ⟨d0, d1⟩ ⟨y0, y1⟩ wr
      rw [← e1, ← e2] at hmul
      have ha1 := add64_z lo c l2 c2 hlo c0 e3 e4
      have ha2 := sub64 xi l2 b x0 x1 p0 p1 b0 b1
      have HMUL := Lib.hid hmul
      have HMC : Hid (mc (fun _ => 0) v d (i + 1) = hi' + c2) := by show _ = _; rw [hmc.out, hs4]
      clear hye e1 e2 e3 e4 s3 s4 s5 hmul hmc hrow hblk hgr hpm hmd hl3 hs4 hxi
      go_wp2_with (first
        | (go_at_call 125; (with_reducible refine HMUL.out.mono ?_); rintro e w' ⟨rfl, rfl⟩)
        | simp only [ha1]
        | simp only [ha2])
      go_roundw
      case rel => exact ⟨i + 1, by omega, by go_num, by rw [HMC.out], by rw [hwb.out], (HROW.out.set0 (by omega) _).congr fun t _ => ovr_step hwe.out.symm t, HBLK.out.set _ _, gb_trans HGR.out (gb_set _ _ _)⟩
      case measure => simp [intOf]; omega
    · obtain rfl : i = n := by omega
      have hpm : prw v d i i = c := by rw [HC.out]; exact if_neg (by omega)
      rw [hpm] at hwe hwb
      obtain ⟨nb, hnb⟩ : ∃ nb, nb = -((xi - c - b) / 18446744073709551616) := ⟨_, rfl⟩
      have ha2 := sub64 xi c b x0 x1 c0 c1 b0 b1
      rw [← hnb] at ha2 hwb
      have HNB := Lib.hid hnb
      clear hrow hblk hgr hpm hxi hnb
      go_wp2_with (simp only [ha2])
      go_ret
      exact ⟨by rw [hwb.out]; rfl, HBLK.out.set _ _, (HROW.out.set0 (by omega) _).congr fun t _ => ovr_step hwe.out.symm t, gb_trans HGR.out (gb_set _ _ _)⟩
theorem give_any (ub j n T cu : Nat) (U : Nat → Int) (av : Option Addr) (cv : Nat) (v : Nat → Int) (w : World) (hT : j + n + 1 ≤ T) (hTb : T ≤ 17592186044416)
    (hB : Blk w ub T 62) (hU : RowAt .u64 w ub 0 T U) (hUb : ∀ i, i < T → 0 ≤ U i ∧ U i < 18446744073709551616) (hv : RdW w (.slice av n cv) n v) (hvo : 0 < n → ∀ b o, av = some ⟨b, o, none⟩ → b ≠ ub) :
    Calls Try.prog 199 #[.slice (some ⟨ub, j, none⟩) (n + 1) cu, .slice av n cv] w fun e w' => e = .returned (.tuple #[]) ∧
      Blk w' ub T 62 ∧ RowAt .u64 w' ub 0 T (ovr U (wd (fun i => U (j + i)) (zw v n)) j (n + 1)) ∧ w.grownBy w' (some ub) := by
  obtain ⟨_, _, e2, g1, g2, g3⟩ := wd_get hv.1
  simp only [Value.slice.injEq, true_and] at e2
  obtain ⟨rfl, rfl⟩ := e2
  have hvb := words_bd hv.2
  obtain ⟨X, hX⟩ : ∃ X, X = fun i => U (j + i) := ⟨_, rfl⟩
  obtain ⟨Y, hY⟩ : ∃ Y, Y = zw v n := ⟨_, rfl⟩
  rw [← hX, ← hY]
  have hXb : ∀ i, i < n + 1 → 0 ≤ X i ∧ X i < 18446744073709551616 := fun i hi => by rw [hX]; exact hUb (j + i) (by omega)
  have hYb : ∀ i, 0 ≤ Y i ∧ Y i < 18446744073709551616 := fun i => by rw [hY]; exact zw_bd (by omega) hvb i
  have hYn : Y n = 0 := by rw [hY]; exact if_neg (by omega)
  have hYv : ∀ i, i < n → Y i = v i := fun i hi => by rw [hY]; exact if_pos hi
  have hXe : ∀ i, U (j + i) = X i := fun i => by rw [hX]
  have g3 : ∀ i, i < n → ∃ b o, av = some ⟨b, o, none⟩ ∧ b ≠ ub ∧ w.cell? ⟨b, o + i, none⟩ = some (.int .u64 (v i)) := fun i hi => by
    obtain ⟨b, o, e, hc⟩ := g3 i hi
    exact ⟨b, o, e, hvo (by omega) b o e, hc⟩
  have G3 := Lib.hid g3
  have HU := Lib.hid hU
  have HB := Lib.hid hB
  have HXB := Lib.hid hXb
  have HYB := Lib.hid hYb
  have HYN := Lib.hid hYn
  have HYV := Lib.hid hYv
  have HXE := Lib.hid hXe
  clear g3 hU hB hXb hXe hvb hv hvo hX hUb hYb hYn hYv hY
  go_enter Try.func199, Try.ntmps199
  go_wp2_with fail
  go_loopw [4, 8] (fun cv iv wr => ∃ i : Nat, i ≤ n ∧ iv = .int .i64 i ∧ cv = .int .u64 (wc X Y i) ∧ RowAt .u64 wr ub 0 T (ovr U (wd X Y) j i) ∧ Blk wr ub T 62 ∧ w.grownBy wr (some ub)) (fun _ iv _ => n - (intOf iv).toNat)
  case atStart => exact ⟨0, Nat.zero_le _, rfl, rfl, HU.out.congr fun i _ => (if_neg (by omega)).symm, HB.out, gb_refl _ _⟩
  case round =>
    clear HU HB
    obtain ⟨i, i1, rfl, rfl, hrow, hblk, hgr⟩ := hrel
    obtain ⟨c0, c1⟩ := wc_bd (X := X) (Y := Y) i (fun k hk => HXB.out k (by omega)) (fun k hk => HYB.out k)
    obtain ⟨c, hc⟩ : ∃ c, c = wc X Y i := ⟨_, rfl⟩
    rw [← hc] at c0 c1 ⊢
    have HC := Lib.hid hc
    clear hc
    obtain ⟨x0, x1⟩ := HXB.out i (by omega)
    obtain ⟨f1, f2⟩ := hrow.get0 (i := j + i) (by omega) (x := X i) (by rw [ovr_at, HXE.out])
    have hwd : Hid (wd X Y i = (X i + Y i + c) % 18446744073709551616) := by show _ = _; rw [HC.out]; rfl
    have hwc : Hid (wc X Y (i + 1) = (X i + Y i + c) / 18446744073709551616) := by show _ = _; rw [HC.out]; rfl
    obtain ⟨xi, hxi⟩ : ∃ xi, xi = X i := ⟨_, rfl⟩
    rw [← hxi] at f1 x0 x1 hwd hwc
    have HROW := Lib.hid hrow
    have HBLK := Lib.hid hblk
    have HGR := Lib.hid hgr
    by_cases hi : i < n
    · obtain ⟨bb, o, rfl, hne, hcy⟩ := G3.out i hi
      have hcy := hgr.cell hcy (fun e => hne (Option.some.inj e))
      obtain ⟨y0, y1⟩ := HYB.out i
      rw [← HYV.out i hi] at hcy
      obtain ⟨y, hye⟩ : ∃ y, y = Y i := ⟨_, rfl⟩
      rw [← hye] at hcy y0 y1 hwd hwc
      have hadd := add64 xi y c x0 y0 c0 c1
      clear hye hxi hrow hblk hgr
      go_wp2_with fail
      go_region
      all_goals
        go_wp2_with fail
        go_roundw
        case rel => exact ⟨i + 1, by omega, by go_num, by rw [hwc.out], (RowAt.set0 (w := wr) HROW.out (j := j + i) (by omega) _).congr fun t _ => ovr_step hwd.out.symm t, Blk.set (w := wr) HBLK.out _ _, gb_trans HGR.out (gb_trans (gb_set wr _ _) (gb_drew _ _))⟩
        case measure => simp [intOf]; omega
    · obtain rfl : i = n := by omega
      rw [HYN.out] at hwd
      have hwr : IntKind.u64.wrap (xi + c) = (xi + c) % 18446744073709551616 := by rw [IntKind.wrap_u64]
      have hwd : Hid (wd X Y i = (xi + c) % 18446744073709551616) := by show _ = _; rw [hwd.out]; simp
      obtain ⟨s, hs⟩ : ∃ s, s = (xi + c) % 18446744073709551616 := ⟨_, rfl⟩
      rw [← hs] at hwr hwd
      clear hxi hrow hblk hgr hs hwc
      go_wp2_with fail
      go_end0
      exact ⟨rfl, HBLK.out.set _ _, (HROW.out.set0 (by omega) _).congr fun t _ => ovr_step hwd.out.symm t, gb_trans HGR.out (gb_set _ _ _)⟩
end Go.Proofs.Ytejliecmdkmgiaa
