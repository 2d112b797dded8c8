/- The walks of trellisref01.order, Cmp, at, Add, Sub. -/
import Derived.Test.YtdlpemmoobbgnaaR02
import Derived.Deep.DeepCutAuto
import Derived.BigRegion
set_option linter.unusedVariables false
set_option linter.unusedSimpArgs false
namespace Go.Proofs.Ytdlpemmoobbgnaa
open Go.RowKit

/-- order of two numbers -/
def cmpZ (N M : Int) : Int := if N < M then -1 else if M < N then 1 else 0

set_option maxHeartbeats 1000000 in
set_option maxRecDepth 100000 in
theorem order_any (x y : Value) (n m : Nat) (f g : Nat → Int) (N M : Int) (w : World) (hx : RdA .i64 w x n f) (hy : RdA .i64 w y m g) (hf : Dig 65536 n f N) (hg : Dig 65536 m g M) :
    Calls Try.prog 109 #[x, y] w fun e w' => e = .returned (.int .i64 (cmpZ N M)) ∧ Below w.heap.size w w' := by
  obtain ⟨a, cap, rfl, h1, h2, h3⟩ := wd_get hx
  obtain ⟨b, cap', rfl, g1, g2, g3⟩ := wd_get hy
  have H3 := Lib.hid h3
  have G3 := Lib.hid g3
  have HF := Lib.hid hf
  have HG := Lib.hid hg
  clear h3 g3 hx hy hf hg
  by_cases hnm : n = m
  · subst hnm
    go_enter Try.func109, Try.ntmps109
    go_wp2_with fail
    go_loopw [5] (fun kv wr => ∃ k : Nat, k ≤ n ∧ Hid (∀ i, k ≤ i → i < n → f i = g i) ∧ kv = .int .i64 ((k : Int) - 1) ∧ Below w.heap.size w wr) (fun kv _ => (intOf kv + 1).toNat)
    case atStart => exact ⟨n, Nat.le_refl _, fun i h1 h2 => absurd h1 (by omega), rfl, Below.refl _ _⟩
    case round =>
      obtain ⟨k, k1, k2, rfl, hb⟩ := hrel
      rcases k with _ | j
      · have e : Hid (cmpZ N M = 0) := by
          have : N = M := by rw [← HF.out.val, ← HG.out.val]; exact dv_congr fun i hi => k2.out i (Nat.zero_le _) hi
          show _ = _; unfold cmpZ; rw [if_neg (by omega), if_neg (by omega)]
        go_wp2_with fail
        go_ret
        exact ⟨ret_i64 e.out.symm, hb⟩
      · obtain ⟨b1, o1, rfl, hc⟩ := H3.out j (by omega)
        obtain ⟨b2, o2, rfl, hd⟩ := G3.out j (by omega)
        obtain ⟨u, hu⟩ : ∃ u, u = f j := ⟨_, rfl⟩
        obtain ⟨v, hv⟩ : ∃ v, v = g j := ⟨_, rfl⟩
        rw [← hu] at hc
        rw [← hv] at hd
        have hc := cell_stays hb hc
        have hd := cell_stays hb hd
        have HU := Lib.hid hu
        have HV := Lib.hid hv
        clear hu hv
        rcases Int.lt_trichotomy u v with h | h | h
        · have e : Hid (cmpZ N M = -1) := by
            have : N < M := by rw [← HF.out.val, ← HG.out.val]; exact dv_lt (by omega) HF.out.bd HG.out.bd (k := j) (by omega) (fun i h1 h2 => k2.out i (by omega) h2) (by rw [← HU.out, ← HV.out]; exact h)
            show _ = _; unfold cmpZ; rw [if_pos this]
          go_wp2_with fail
          go_region
          all_goals
            go_wp2_with fail
            go_ret
            exact ⟨ret_i64 e.out.symm, hb.drew⟩
        · subst h
          go_wp2_with fail
          go_region
          all_goals
            go_wp2_with fail
            go_region
            all_goals
              go_wp2_with fail
              go_roundw
              case rel =>
                refine ⟨j, by omega, fun i h1 h2 => ?_, by go_num, hb.drew.drew⟩
                by_cases e : i = j
                · subst e; rw [← HU.out, ← HV.out]
                · exact k2.out i (by omega) h2
              case measure => simp [intOf]
        · have e : Hid (cmpZ N M = 1) := by
            have : M < N := by rw [← HF.out.val, ← HG.out.val]; exact dv_lt (by omega) HG.out.bd HF.out.bd (k := j) (by omega) (fun i h1 h2 => (k2.out i (by omega) h2).symm) (by rw [← HU.out, ← HV.out]; exact h)
            show _ = _; unfold cmpZ; rw [if_neg (by omega), if_pos this]
          go_wp2_with fail
          go_region
          all_goals
            go_wp2_with fail
            go_region
            all_goals
              go_wp2_with fail
              go_ret
              exact ⟨ret_i64 e.out.symm, hb.drew.drew⟩
  · have hne : ((n : Int) != m) = true := by rw [bne_iff_ne]; omega
    by_cases hlt : n < m
    · have e : Hid (cmpZ N M = -1) := by show _ = _; unfold cmpZ; rw [if_pos (HF.out.lt_of_len (by omega) HG.out hlt)]
      go_enter Try.func109, Try.ntmps109
      go_wp2_with fail
      go_ret
      exact ⟨ret_i64 e.out.symm, Below.refl _ _⟩
    · have e : Hid (cmpZ N M = 1) := by
        have := HG.out.lt_of_len (by omega) HF.out (by omega)
        show _ = _; unfold cmpZ; rw [if_neg (by omega), if_pos this]
      go_enter Try.func109, Try.ntmps109
      go_wp2_with fail
      go_ret
      exact ⟨ret_i64 e.out.symm, Below.refl _ _⟩

set_option maxHeartbeats 400000 in
theorem Cmp01_any (x y : Value) (n m : Nat) (f g : Nat → Int) (w : World) (hn : n ≤ 1099511627776) (hm : m ≤ 1099511627776) (hx : RdW w x n f) (hy : RdW w y m g) :
    Calls Try.prog 80 #[x, y] w fun e w' => e = .returned (.int .i64 (cmpZ (natFrom f 0 n) (natFrom g 0 m))) ∧ Below w.heap.size w w' := by
  have HX := Lib.hid hx
  have HY := Lib.hid hy
  obtain ⟨ax, cx, rfl, -⟩ := hx.1
  obtain ⟨ay, cy, rfl, -⟩ := hy.1
  clear hx hy
  go_enter Try.func80, Try.ntmps80
  go_wp2_with fail
  refine (Split_any _ n f _ hn HX.out).mono ?_
  rintro e w1 ⟨v1, rfl, ⟨p, f1, hf1, hd1⟩, hb1⟩
  obtain ⟨a1, c1, rfl⟩ := hf1.slice
  have HF1 := Lib.hid hf1
  have HD1 := Lib.hid hd1
  clear hf1 hd1
  go_wp2_with fail
  refine (Split_any _ m g _ hm (HY.out.below hb1)).mono ?_
  rintro e w2 ⟨v2, rfl, ⟨q, f2, hf2, hd2⟩, hb2⟩
  obtain ⟨a2, c2, rfl⟩ := hf2.slice
  have HF2 := Lib.hid hf2
  have HD2 := Lib.hid hd2
  clear hf2 hd2
  go_wp2_with (go_at_call 109; refine (order_any _ _ _ _ _ _ _ _ _ (HF1.out.below hb2).read HF2.out.read HD1.out HD2.out).mono ?_; rintro e w3 ⟨rfl, hb3⟩)
  go_ret
  have hb12 := hb1.trans (hb2.mono hb1.size)
  exact ⟨rfl, hb12.trans (hb3.mono hb12.size)⟩

theorem FrA.off {k : IntKind} {e : TypeId} {w : World} {base : Nat} {v : Value} {n : Nat} {f : Nat → Int} (h : FrA k e w base v n f) : v.ownBlock = none ∨ v.ownBlock ≠ some w.heap.size := by
  cases hv : v.ownBlock with
  | none => exact Or.inl rfl
  | some b => right; have := (h.lt hv).2; intro e; injection e with e; omega

/-- digits, followed by zeros -/
def zx (f : Nat → Int) (n i : Nat) : Int := if i < n then f i else 0
theorem zx_bd {B : Int} (hB : 0 < B) {f : Nat → Int} {n : Nat} (h : ∀ i, i < n → 0 ≤ f i ∧ f i < B) (i : Nat) : 0 ≤ zx f n i ∧ zx f n i < B := by
  unfold zx; split
  · exact h i (by assumption)
  · omega
theorem zx_dv {B : Int} {f : Nat → Int} {n m : Nat} (h : n ≤ m) : dv B (zx f n) m = dv B f n := by
  rw [dv_more (f := zx f n) h (fun i hi _ => if_neg (by omega))]
  exact dv_congr fun i hi => if_pos hi

set_option maxHeartbeats 400000 in
theorem at_any (x : Value) (n k : Nat) (f : Nat → Int) (w : World) (hx : RdA .i64 w x n f) (hk : k ≤ 17592186044416) :
    Calls Try.prog 107 #[x, .int .i64 k] w fun e w' => e = .returned (.int .i64 (zx f n k)) ∧ w = w' := by
  obtain ⟨a, cap, rfl, h1, h2, h3⟩ := wd_get hx
  by_cases hkn : k < n
  · obtain ⟨b1, o1, rfl, hc⟩ := h3 k hkn
    have e : Hid (zx f n k = f k) := if_pos hkn
    obtain ⟨u, hu⟩ : ∃ u, u = f k := ⟨_, rfl⟩
    rw [← hu] at hc e
    clear hu h3 hx
    go_enter Try.func107, Try.ntmps107
    go_wp2_with fail
    go_ret
    exact ⟨ret_i64 e.out.symm, rfl⟩
  · have e : Hid (zx f n k = 0) := if_neg hkn
    clear h3 hx
    go_enter Try.func107, Try.ntmps107
    go_wp2_with fail
    go_ret
    exact ⟨ret_i64 e.out.symm, rfl⟩

/-- the carries and digits of a sum -/
def ca (X Y : Nat → Int) : Nat → Int
  | 0 => 0
  | i + 1 => (X i + Y i + ca X Y i) / 65536
def sd (X Y : Nat → Int) (i : Nat) : Int := (X i + Y i + ca X Y i) % 65536
theorem ca_bd {X Y : Nat → Int} (hX : ∀ i, 0 ≤ X i ∧ X i < 65536) (hY : ∀ i, 0 ≤ Y i ∧ Y i < 65536) : ∀ i, 0 ≤ ca X Y i ∧ ca X Y i ≤ 1
  | 0 => by simp [ca]
  | i + 1 => by
    have := ca_bd hX hY i
    have := hX i
    have := hY i
    simp only [ca]; omega
theorem ca_dv (X Y : Nat → Int) : ∀ i, dv 65536 (sd X Y) i + ca X Y i * 65536 ^ i = dv 65536 X i + dv 65536 Y i
  | 0 => by simp [dv, ca]
  | i + 1 => by
    have ih := ca_dv X Y i
    simp only [dv, ca, Int.pow_succ]
    have e : sd X Y i = X i + Y i + ca X Y i - 65536 * ((X i + Y i + ca X Y i) / 65536) := by unfold sd; omega
    rw [e]
    obtain ⟨q, hq⟩ : ∃ q, q = (X i + Y i + ca X Y i) / 65536 := ⟨_, rfl⟩
    rw [← hq]
    grind

/-- the row of a sum of n places: j of them done -/
theorem sum_last {X Y : Nat → Int} {n : Nat} {F : Nat → Int} (h1 : ∀ i, i < n → F i = sd X Y i) (h2 : F n = ca X Y n) : dv 65536 F (n + 1) = dv 65536 X n + dv 65536 Y n := by
  simp only [dv]
  rw [dv_congr h1, h2, ca_dv]

set_option maxHeartbeats 1000000 in
set_option maxRecDepth 100000 in
theorem Add01_any (x y : Value) (n m : Nat) (f g : Nat → Int) (w : World) (hn : n ≤ 1099511627776) (hm : m ≤ 1099511627776) (hx : RdW w x n f) (hy : RdW w y m g) :
    Calls Try.prog 79 #[x, y] w fun e w' => ∃ v, e = .returned v ∧ FrN w' w.heap.size v (natFrom f 0 n + natFrom g 0 m) ∧ Below w.heap.size w w' := by
  have HX := Lib.hid hx
  have HY := Lib.hid hy
  have lt1 : natFrom f 0 n < 65536 ^ (4 * n) := by
    rw [natFrom_dv0, Int.pow_mul]; exact (dv_bd (by omega) (fun i hi => by have := hx.2 i hi; omega)).2
  have lt2 : natFrom g 0 m < 65536 ^ (4 * m) := by
    rw [natFrom_dv0, Int.pow_mul]; exact (dv_bd (by omega) (fun i hi => by have := hy.2 i hi; omega)).2
  have HL1 := Lib.hid lt1
  have HL2 := Lib.hid lt2
  obtain ⟨ax, cx, rfl, -⟩ := hx.1
  obtain ⟨ay, cy, rfl, -⟩ := hy.1
  clear hx hy lt1 lt2
  go_enter Try.func79, Try.ntmps79
  go_wp2_with fail
  refine (Split_any _ n f _ hn HX.out).mono ?_
  rintro e w1 ⟨v1, rfl, ⟨p, f1, hf1, hd1⟩, hb1⟩
  have hp : p ≤ 4 * n := hd1.len (by omega) HL1.out
  obtain ⟨a1, k1, rfl⟩ := hf1.slice
  have HF1 := Lib.hid hf1
  have HD1 := Lib.hid hd1
  clear hf1 hd1
  go_wp2_with fail
  refine (Split_any _ m g _ hm (HY.out.below hb1)).mono ?_
  rintro e w2 ⟨v2, rfl, ⟨q, f2, hf2, hd2⟩, hb2⟩
  have hq : q ≤ 4 * m := hd2.len (by omega) HL2.out
  obtain ⟨a2, k2, rfl⟩ := hf2.slice
  have HF1 := Lib.hid (HF1.out.below hb2)
  have HF2 := Lib.hid hf2
  have HD2 := Lib.hid hd2
  have hb12 : Below w.heap.size w w2 := hb1.trans (hb2.mono hb1.size)
  have HB := Lib.hid hb12
  have hs1 := hb1.size
  clear hf2 hd2 hb1 hb2 hb12
  obtain ⟨s, hs⟩ : ∃ s, s = max p q := ⟨_, rfl⟩
  have hsp : p ≤ s := by omega
  have hsq : q ≤ s := by omega
  have hsb : s ≤ 8796093022208 := by omega
  have HS := Lib.hid hs
  clear hs
  go_upto_if 21 with fail
  go_cut [7] (fun nv wx => nv = .int .i64 s ∧ w2 = wx)
  case first =>
    by_cases h : p < q
    · go_wp2_with fail
      go_meet
      exact ⟨by rw [show s = q by have := HS.out; omega], rfl⟩
    · go_wp2_with fail
      go_meet
      exact ⟨by rw [show s = p by have := HS.out; omega], rfl⟩
  case rest =>
    obtain ⟨rfl, rfl⟩ := hcut
    have mk : ∀ u : World, (Instr.makeSlice 45 (.int .i64 ((s : Int) + 1)) (.int .i64 ((s : Int) + 1))).run Try.prog u =
        .ok (.slice (some ⟨u.heap.size, 0, none⟩) (s + 1) (s + 1)) (u.alloc (.cells (madeCells #[.int .i64 0] (s + 1)) 3)) := by
      rw [show (s : Int) + 1 = ((s + 1 : Nat) : Int) by omega]; exact mk_nums (s + 1) (s + 1) (Nat.le_refl _) (by omega)
    go_wp2_with fail
    have hr0 := (CellsAt.row (f := fun _ => 0) (CellsAt.made w2 (.int .i64 0) (s + 1) 3))
    have hg0 := World.grownBy_alloc w2 (.cells (madeCells #[.int .i64 0] (s + 1)) 3) (some w2.heap.size)
    obtain ⟨db, hdb⟩ : ∃ db, db = w2.heap.size := ⟨_, rfl⟩
    have hdw : w.heap.size ≤ db := by rw [hdb]; exact HB.out.size
    have hof1 := HF1.out.off
    have hof2 := HF2.out.off
    rw [← hdb] at hr0 hg0 hof1 hof2 ⊢
    have HR0 := Lib.hid hr0
    have HG0 := Lib.hid hg0
    have HOF := Lib.hid (And.intro hof1 hof2)
    have hX := zx_bd (by omega) HD1.out.bd
    have hY := zx_bd (by omega) HD2.out.bd
    have hval : dv 65536 (zx f1 p) s + dv 65536 (zx f2 q) s = natFrom f 0 n + natFrom g 0 m := by rw [zx_dv hsp, zx_dv hsq, HD1.out.val, HD2.out.val]
    have HCA := Lib.hid (ca_bd hX hY)
    have hat1 := fun (wr : World) (hg : w2.grownBy wr (some db)) (j : Nat) (hj : j ≤ 17592186044416) => at_any _ p j f1 wr (HF1.out.grown hg hof1).read hj
    have hat2 := fun (wr : World) (hg : w2.grownBy wr (some db)) (j : Nat) (hj : j ≤ 17592186044416) => at_any _ q j f2 wr (HF2.out.grown hg hof2).read hj
    obtain ⟨X, hXe⟩ : ∃ X, X = zx f1 p := ⟨_, rfl⟩
    obtain ⟨Y, hYe⟩ : ∃ Y, Y = zx f2 q := ⟨_, rfl⟩
    rw [← hXe] at hX hval HCA hat1
    rw [← hYe] at hY hval HCA hat2
    have HX' := Lib.hid hX
    have HY' := Lib.hid hY
    have HV := Lib.hid hval
    have HA1 := Lib.hid hat1
    have HA2 := Lib.hid hat2
    clear hr0 hg0 hof1 hof2 hX hY hval hat1 hat2 hXe hYe mk hdb
    generalize w2.alloc (.cells (madeCells #[.int .i64 0] (s + 1)) 3) = w4 at HR0 HG0 ⊢
    go_loopw [9, 10] (fun cv iv wr => ∃ j : Nat, j ≤ s ∧ iv = .int .i64 j ∧ cv = .int .i64 (ca X Y j) ∧ RowAt .i64 wr db 0 (s + 1) (fun i => if i < j then sd X Y i else 0) ∧ w2.grownBy wr (some db)) (fun _ iv _ => s - (intOf iv).toNat)
    case atStart => exact ⟨0, Nat.zero_le _, rfl, rfl, HR0.out.congr fun i _ => (if_neg (by omega)).symm, HG0.out⟩
    case round =>
      clear HR0 HG0
      obtain ⟨j, j1, rfl, rfl, hrow, hgr⟩ := hrel
      obtain ⟨c0, c1⟩ := HCA.out j
      obtain ⟨c, hc⟩ : ∃ c, c = ca X Y j := ⟨_, rfl⟩
      rw [← hc] at c0 c1 ⊢
      have HC := Lib.hid hc
      clear hc
      by_cases hj : j < s
      · obtain ⟨d1, d2⟩ := hrow.get0 (i := j) (by omega) (x := 0) (if_neg (by omega))
        have q1 := HA1.out wr hgr j (by omega)
        have q2 := HA2.out wr hgr j (by omega)
        obtain ⟨x0, x1⟩ := HX'.out j
        obtain ⟨y0, y1⟩ := HY'.out j
        have hsd : Hid (sd X Y j = (X j + Y j + c) % 65536) := by show _ = _; rw [HC.out]; rfl
        have hca : Hid (ca X Y (j + 1) = (X j + Y j + c) / 65536) := by show _ = _; rw [HC.out]; rfl
        obtain ⟨xj, hxj⟩ : ∃ xj, xj = X j := ⟨_, rfl⟩
        obtain ⟨yj, hyj⟩ : ∃ yj, yj = Y j := ⟨_, rfl⟩
        rw [← hxj] at q1 x0 x1 hsd hca
        rw [← hyj] at q2 y0 y1 hsd hca
        have Q1 := Lib.hid q1
        have Q2 := Lib.hid q2
        have HROW := Lib.hid hrow
        clear q1 q2 hxj hyj hrow
        go_wp2_with (go_at_call 107; first | ((with_reducible refine Q1.out.mono ?_); rintro e w5 ⟨rfl, rfl⟩) | ((with_reducible refine Q2.out.mono ?_); rintro e w5 ⟨rfl, rfl⟩))
        go_roundw
        case rel =>
          refine ⟨j + 1, by omega, by go_num, by rw [hca.out], (HROW.out.set0 (by omega) _).congr fun i _ => ?_, gb_trans hgr (gb_set _ _ _)⟩
          by_cases e : i = j
          · rw [if_pos e, if_pos (by omega), e, hsd.out]
          · rw [if_neg e]
            by_cases e2 : i < j
            · rw [if_pos e2, if_pos (by omega)]
            · rw [if_neg e2, if_neg (by omega)]
        case measure => simp [intOf]; omega
      · obtain rfl : j = s := by omega
        obtain ⟨d1, d2⟩ := hrow.get0 (i := j) (by omega) (x := 0) (if_neg (by omega))
        have hr5 := hrow.set0 (j := j) (by omega) c
        have hg5 := gb_trans hgr (gb_set wr ⟨db, j, none⟩ (.int .i64 c))
        have hd : ∀ i, i < j + 1 → 0 ≤ (if i = j then c else if i < j then sd X Y i else 0) ∧ (if i = j then c else if i < j then sd X Y i else 0) < 65536 := fun i _ => by
          have : 0 ≤ sd X Y i ∧ sd X Y i < 65536 := by unfold sd; omega
          split
          · omega
          · split <;> omega
        have hsum : dv 65536 (fun i => if i = j then c else if i < j then sd X Y i else 0) (j + 1) = natFrom f 0 n + natFrom g 0 m := by
          rw [sum_last (X := X) (Y := Y) (fun i hi => by rw [if_neg (by omega), if_pos hi]) (by rw [if_pos rfl, HC.out]), HV.out]
        have hb5 := HB.out.grown hg5 HB.out.size (fun k hk => by injection hk with hk; omega)
        have hread : RdA .i64 (wr.setCell ⟨db, j, none⟩ (.int .i64 c)) (.slice (some ⟨db, 0, none⟩) (j + 1) (j + 1)) (j + 1) (fun i => if i = j then c else if i < j then sd X Y i else 0) :=
          ⟨_, j + 1, rfl, Nat.le_refl _, by omega, fun _ => ⟨db, 0, rfl, fun i hi => (hr5 i hi).1⟩⟩
        have HD := Lib.hid hd
        have HSM := Lib.hid hsum
        have HRD := Lib.hid hread
        have HB5 := Lib.hid hb5
        clear hr5 hg5 hd hsum hread hb5 hrow
        go_wp2_with fail
        refine (Join_any _ (j + 1) _ _ (by omega) HD.out HRD.out).mono ?_
        rw [HSM.out]
        rintro e w6 ⟨v6, rfl, hfn, hb6⟩
        obtain ⟨a6, n6, cap6, f6, rfl, h1, h2⟩ := hfn.nat
        have H1 := Lib.hid (h1.mono HB5.out.size)
        have H2 := Lib.hid h2
        clear h1 h2 hfn
        go_wp2_with fail
        go_ret
        exact ⟨_, rfl, ⟨n6, f6, H1.out, H2.out⟩, HB5.out.trans (hb6.mono HB5.out.size)⟩

end Go.Proofs.Ytdlpemmoobbgnaa
