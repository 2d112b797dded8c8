/- The walk of trellisref01.Sub. -/
import Derived.Test.YtdlpemmoobbgnaaR03
import Derived.BigQuiet
set_option linter.unusedVariables false
set_option linter.unusedSimpArgs false
namespace Go.Proofs.Ytdlpemmoobbgnaa
open Go.RowKit

/-- the borrows and digits of a difference -/
def bw (X Y : Nat → Int) : Nat → Int
  | 0 => 0
  | i + 1 => if X i - Y i - bw X Y i < 0 then 1 else 0
def dd (X Y : Nat → Int) (i : Nat) : Int := if X i - Y i - bw X Y i < 0 then X i - Y i - bw X Y i + 65536 else X i - Y i - bw X Y i
theorem bw_bd (X Y : Nat → Int) : ∀ i, 0 ≤ bw X Y i ∧ bw X Y i ≤ 1
  | 0 => by simp [bw]
  | i + 1 => by simp only [bw]; split <;> omega
theorem bw_dv (X Y : Nat → Int) : ∀ i, dv 65536 (dd X Y) i - bw X Y i * 65536 ^ i = dv 65536 X i - dv 65536 Y i
  | 0 => by simp [dv, bw]
  | i + 1 => by
    have ih := bw_dv X Y i
    simp only [dv, bw, dd, Int.pow_succ]
    split <;> grind
theorem dd_bd {X Y : Nat → Int} (hX : ∀ i, 0 ≤ X i ∧ X i < 65536) (hY : ∀ i, 0 ≤ Y i ∧ Y i < 65536) (i : Nat) : 0 ≤ dd X Y i ∧ dd X Y i < 65536 := by
  have := bw_bd X Y i
  have := hX i
  have := hY i
  unfold dd; split <;> omega
/-- at the end nothing is lent -/
theorem bw_last {X Y : Nat → Int} (hX : ∀ i, 0 ≤ X i ∧ X i < 65536) (hY : ∀ i, 0 ≤ Y i ∧ Y i < 65536) {n : Nat} (h : dv 65536 Y n ≤ dv 65536 X n) : dv 65536 (dd X Y) n = dv 65536 X n - dv 65536 Y n := by
  have h1 := bw_dv X Y n
  have h2 := dv_bd (B := 65536) (by omega) (n := n) (fun i _ => dd_bd hX hY i)
  have h3 := bw_bd X Y n
  rcases (by omega : bw X Y n = 0 ∨ bw X Y n = 1) with r | r
  · rw [r, Int.zero_mul] at h1; omega
  · rw [r, Int.one_mul] at h1; omega

/-- a number is no longer than a greater one -/
theorem Dig.len_le {B : Int} (hB : 1 < B) {n m : Nat} {f g : Nat → Int} {N M : Int} (h : Dig B n f N) (h' : Dig B m g M) (hl : N ≤ M) : n ≤ m :=
  h.len hB (Int.lt_of_le_of_lt hl (h'.lt (by omega)))

set_option maxHeartbeats 1000000 in
set_option maxRecDepth 100000 in
theorem Sub01_any (x y : Value) (n m : Nat) (f g : Nat → Int) (w : World) (hn : n ≤ 1099511627776) (hm : m ≤ 1099511627776) (hle : natFrom g 0 m ≤ natFrom f 0 n) (hx : RdW w x n f) (hy : RdW w y m g) :
    Calls Try.prog 81 #[x, y] w fun e w' => ∃ v, e = .returned (.tuple #[v, .int .i64 0]) ∧ FrN w' w.heap.size v (natFrom f 0 n - natFrom g 0 m) ∧ Below w.heap.size w w' := by
  have HX := Lib.hid hx
  have HY := Lib.hid hy
  have lt1 : natFrom f 0 n < 65536 ^ (4 * n) := by
    rw [natFrom_dv0, Int.pow_mul]; exact (dv_bd (by omega) (fun i hi => by have := hx.2 i hi; omega)).2
  have HL1 := Lib.hid lt1
  have HLE := Lib.hid hle
  have hcmp : (cmpZ (natFrom f 0 n) (natFrom g 0 m) < 0) = False := by
    simp only [eq_iff_iff, iff_false]; unfold cmpZ; split
    · omega
    · split <;> omega
  have hc0 : 0 ≤ cmpZ (natFrom f 0 n) (natFrom g 0 m) := by simpa using hcmp
  obtain ⟨ax, cx, rfl, -⟩ := hx.1
  obtain ⟨ay, cy, rfl, -⟩ := hy.1
  clear hx hy lt1 hle hcmp
  go_enter Try.func81, Try.ntmps81
  go_wp2_with fail
  refine (Split_any _ n f _ hn HX.out).mono ?_
  rintro e w1 ⟨v1, rfl, ⟨p, f1, hf1, hd1⟩, hb1⟩
  have hp : p ≤ 4 * n := hd1.len (by omega) HL1.out
  obtain ⟨a1, k1, rfl⟩ := hf1.slice
  have HF1 := Lib.hid hf1
  have HD1 := Lib.hid hd1
  clear hf1 hd1
  go_wp2_with fail
  refine (Split_any _ m g _ hm (HY.out.below hb1)).mono ?_
  rintro e w2 ⟨v2, rfl, ⟨q, f2, hf2, hd2⟩, hb2⟩
  have hq : q ≤ p := hd2.len_le (by omega) HD1.out HLE.out
  obtain ⟨a2, k2, rfl⟩ := hf2.slice
  have HF1 := Lib.hid (HF1.out.below hb2)
  have HF2 := Lib.hid hf2
  have HD2 := Lib.hid hd2
  have hb12 : Below w.heap.size w w2 := hb1.trans (hb2.mono hb1.size)
  have HB := Lib.hid hb12
  have hs1 := hb1.size
  obtain ⟨cc, hcc⟩ : ∃ cc, cc = cmpZ (natFrom f 0 n) (natFrom g 0 m) := ⟨_, rfl⟩
  have hord := order_any _ _ _ _ _ _ _ _ _ HF1.out.read hf2.read HD1.out hd2
  rw [← hcc] at hord hc0
  have HORD := Lib.hid hord
  clear hf2 hd2 hb1 hb2 hb12 hord hcc
  have mk := mk_nums p p (Nat.le_refl _) (by omega)
  go_wp2_with (go_at_call 109; refine HORD.out.mono ?_; rintro e w3 ⟨rfl, hb3⟩)
  have hbw3 := HB.out.trans (hb3.mono HB.out.size)
  have HF1 := Lib.hid (HF1.out.below hb3)
  have HF2 := Lib.hid (HF2.out.below hb3)
  have HB := Lib.hid hbw3
  clear hbw3 hb3
  have hr0 := (CellsAt.row (f := fun _ => 0) (CellsAt.made w3 (.int .i64 0) p 3))
  have hg0 := World.grownBy_alloc w3 (.cells (madeCells #[.int .i64 0] p) 3) (some w3.heap.size)
  obtain ⟨db, hdb⟩ : ∃ db, db = w3.heap.size := ⟨_, rfl⟩
  have hdw : w.heap.size ≤ db := by rw [hdb]; exact HB.out.size
  have hof1 := HF1.out.off
  have hof2 := HF2.out.off
  rw [← hdb] at hr0 hg0 hof1 hof2 ⊢
  have HR0 := Lib.hid hr0
  have HG0 := Lib.hid hg0
  have hX := zx_bd (by omega) HD1.out.bd
  have hY := zx_bd (by omega) HD2.out.bd
  have hv1 : dv 65536 (zx f1 p) p = natFrom f 0 n := by rw [zx_dv (Nat.le_refl _), HD1.out.val]
  have hv2 : dv 65536 (zx f2 q) p = natFrom g 0 m := by rw [zx_dv hq, HD2.out.val]
  have hval := bw_last hX hY (n := p) (by rw [hv1, hv2]; exact HLE.out)
  rw [hv1, hv2] at hval
  have hat1 := fun (wr : World) (hg : w3.grownBy wr (some db)) (j : Nat) (hj : j < p) => wd_get (HF1.out.grown hg hof1).read
  have hat2 := fun (wr : World) (hg : w3.grownBy wr (some db)) (j : Nat) (hj : j ≤ 17592186044416) => at_any _ q j f2 wr (HF2.out.grown hg hof2).read hj
  have hzx : ∀ j, j < p → zx f1 p j = f1 j := fun j hj => if_pos hj
  obtain ⟨X, hXe⟩ : ∃ X, X = zx f1 p := ⟨_, rfl⟩
  obtain ⟨Y, hYe⟩ : ∃ Y, Y = zx f2 q := ⟨_, rfl⟩
  rw [← hXe] at hX hval hzx
  rw [← hYe] at hY hval hat2
  have HX' := Lib.hid hX
  have HY' := Lib.hid hY
  have HV := Lib.hid hval
  have HA1 := Lib.hid hat1
  have HA2 := Lib.hid hat2
  have HZX := Lib.hid hzx
  clear hr0 hg0 hof1 hof2 hX hY hval hat1 hat2 hXe hYe mk hdb hv1 hv2 hzx
  generalize w3.alloc (.cells (madeCells #[.int .i64 0] p) 3) = w4 at HR0 HG0 ⊢
  go_loopw [9, 10] (fun cv iv wr => ∃ j : Nat, j ≤ p ∧ iv = .int .i64 j ∧ cv = .int .i64 (bw X Y j) ∧ RowAt .i64 wr db 0 p (fun i => if i < j then dd X Y i else 0) ∧ w3.grownBy wr (some db)) (fun _ iv _ => p - (intOf iv).toNat)
  case atStart => exact ⟨0, Nat.zero_le _, rfl, rfl, HR0.out.congr fun i _ => (if_neg (by omega)).symm, HG0.out⟩
  case round =>
    clear HR0 HG0
    obtain ⟨j, j1, rfl, rfl, hrow, hgr⟩ := hrel
    obtain ⟨c0, c1⟩ := bw_bd X Y j
    obtain ⟨c, hc⟩ : ∃ c, c = bw X Y j := ⟨_, rfl⟩
    rw [← hc] at c0 c1 ⊢
    have HC := Lib.hid hc
    clear hc
    by_cases hj : j < p
    · obtain ⟨d1, d2⟩ := hrow.get0 (i := j) (by omega) (x := 0) (if_neg (by omega))
      obtain ⟨_, _, e1, -, -, hcell⟩ := HA1.out wr hgr j hj
      simp only [Value.slice.injEq, true_and] at e1
      obtain ⟨b1, o1, rfl, hcl⟩ := hcell j hj
      obtain ⟨rfl, rfl⟩ := e1
      have q2 : ∀ N, Calls Try.prog 107 #[.slice a2 q k2, .int .i64 j] (wr.drewN N) fun e w' => e = .returned (.int .i64 (Y j)) ∧ w' = wr.drewN N := fun N => (HA2.out _ (gb_trans hgr (gb_drewN _ _ _)) j (by omega)).mono fun _ _ h => ⟨h.1, h.2.symm⟩
      obtain ⟨x0, x1⟩ := HX'.out j
      obtain ⟨y0, y1⟩ := HY'.out j
      rw [← HZX.out j hj] at hcl
      have hdd : Hid (dd X Y j = if X j - Y j - c < 0 then X j - Y j - c + 65536 else X j - Y j - c) := by show _ = _; rw [HC.out]; rfl
      have hbw : Hid (bw X Y (j + 1) = if X j - Y j - c < 0 then 1 else 0) := by show _ = _; rw [HC.out]; rfl
      obtain ⟨xj, hxj⟩ : ∃ xj, xj = X j := ⟨_, rfl⟩
      obtain ⟨yj, hyj⟩ : ∃ yj, yj = Y j := ⟨_, rfl⟩
      rw [← hxj] at hcl x0 x1 hdd hbw
      rw [← hyj] at q2 y0 y1 hdd hbw
      have Q2 := Lib.hid q2
      have HROW := Lib.hid hrow
      clear q2 hxj hyj hrow hcell
      have hfill : ∀ (v : Int) (wx : World) (N : Nat), Hid (dd X Y j = v) → wx = wr.drewN N → RowAt .i64 (wx.setCell ⟨db, j, none⟩ (.int .i64 v)) db 0 p (fun i => if i < j + 1 then dd X Y i else 0) ∧ w3.grownBy (wx.setCell ⟨db, j, none⟩ (.int .i64 v)) (some db) := by
        rintro v wx N hv rfl
        refine ⟨(RowAt.set0 (w := wr.drewN N) (HROW.out.block rfl) hj _).congr fun i _ => ?_, gb_trans hgr (gb_trans (gb_drewN _ _ _) (gb_set _ _ _))⟩
        by_cases e : i = j
        · rw [if_pos e, if_pos (by omega), e, hv.out]
        · rw [if_neg e]
          by_cases e2 : i < j
          · rw [if_pos e2, if_pos (by omega)]
          · rw [if_neg e2, if_neg (by omega)]
      have HFILL := Lib.hid hfill
      clear hfill
      by_cases hneg : xj - yj - c < 0
      · rw [if_pos hneg] at hdd hbw
        go_wp2_with fail
        go_quiet ((go_at_call 107; exact Calls.quiet_of_same (Q2.out _)))
        have hF := HFILL.out (xj - yj - c + 65536) _ nq (by show _ = _; exact hdd.out) rfl
        have HFF := Lib.hid hF
        clear hF
        go_wp2_with fail
        go_roundw
        case rel => exact ⟨j + 1, by omega, by go_num, by rw [hbw.out], HFF.out.1, HFF.out.2⟩
        case measure => simp [intOf]; omega
      · rw [if_neg hneg] at hdd hbw
        go_wp2_with fail
        go_quiet ((go_at_call 107; exact Calls.quiet_of_same (Q2.out _)))
        have hF := HFILL.out (xj - yj - c) _ nq (by show _ = _; exact hdd.out) rfl
        have HFF := Lib.hid hF
        clear hF
        go_wp2_with fail
        go_roundw
        case rel => exact ⟨j + 1, by omega, by go_num, by rw [hbw.out], HFF.out.1, HFF.out.2⟩
        case measure => simp [intOf]; omega
    · obtain rfl : j = p := by omega
      have hd : ∀ i, i < j → 0 ≤ (if i < j then dd X Y i else 0) ∧ (if i < j then dd X Y i else 0) < 65536 := fun i hi => by
        rw [if_pos hi]; exact dd_bd HX'.out HY'.out i
      have hsum : dv 65536 (fun i => if i < j then dd X Y i else 0) j = natFrom f 0 n - natFrom g 0 m := by
        rw [dv_congr (g := dd X Y) (fun i hi => if_pos hi), HV.out]
      have hb5 := HB.out.grown hgr HB.out.size (fun k hk => by injection hk with hk; omega)
      have hread : RdA .i64 wr (.slice (some ⟨db, 0, none⟩) j j) j (fun i => if i < j then dd X Y i else 0) :=
        ⟨_, j, rfl, Nat.le_refl _, by omega, fun _ => ⟨db, 0, rfl, fun i hi => (hrow i hi).1⟩⟩
      have HD := Lib.hid hd
      have HSM := Lib.hid hsum
      have HRD := Lib.hid hread
      have HB5 := Lib.hid hb5
      clear hd hsum hread hb5 hrow
      go_wp2_with fail
      refine (Join_any _ j _ _ (by omega) HD.out HRD.out).mono ?_
      rw [HSM.out]
      rintro e w6 ⟨v6, rfl, hfn, hb6⟩
      obtain ⟨a6, n6, cap6, f6, rfl, h1, h2⟩ := hfn.nat
      have H1 := Lib.hid (h1.mono HB5.out.size)
      have H2 := Lib.hid h2
      clear h1 h2 hfn
      go_wp2_with fail
      go_ret2
      exact ⟨_, rfl, ⟨n6, f6, H1.out, H2.out⟩, HB5.out.trans (hb6.mono HB5.out.size)⟩

end Go.Proofs.Ytdlpemmoobbgnaa
