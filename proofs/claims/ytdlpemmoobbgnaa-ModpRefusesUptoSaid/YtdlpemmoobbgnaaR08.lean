/- The walks of trellisref02.words, Mul. -/
import Derived.Test.YtdlpemmoobbgnaaR07
import Derived.Deep.RegionWith
set_option linter.unusedVariables false
set_option linter.unusedSimpArgs false
namespace Go.Proofs.Ytdlpemmoobbgnaa
open Go.RowKit

/-- the words when the digits from c on have been put in -/
def wl (f : Nat → Int) (n c t : Nat) : Int := jq f n t (4 - (c - 4 * t))

theorem wl_zero (f : Nat → Int) (n t : Nat) : wl f n 0 t = joi f n t := by unfold wl; rw [show 4 - (0 - 4 * t) = 4 by omega, jq_four]
theorem wl_top (f : Nat → Int) (n t : Nat) (h : n ≤ 4 * t + 4) : ∀ {c}, n ≤ c → 4 * t + 4 ≤ c → wl f n c t = 0 := fun {c} _ h2 => by unfold wl; rw [show 4 - (c - 4 * t) = 0 by omega]; rfl
theorem jq_above (f : Nat → Int) (n t : Nat) : ∀ c, c ≤ 4 → (∀ k, k < 4 → 4 - c ≤ k → n ≤ 4 * t + k) → jq f n t c = 0
  | 0, _, _ => rfl
  | c + 1, h, hn => by
    show jq f n t c * 65536 + (if 4 * t + (3 - c) < n then f (4 * t + (3 - c)) else 0) = 0
    rw [jq_above f n t c (by omega) (fun k h1 h2 => hn k h1 (by omega)), if_neg (by have := hn (3 - c) (by omega) (by omega); omega)]; rfl
theorem wl_start (f : Nat → Int) (n t : Nat) : wl f n n t = 0 := by
  unfold wl
  exact jq_above f n t _ (by omega) (fun k h1 h2 => by omega)
theorem wl_step (f : Nat → Int) (n j t : Nat) (hj : j < n) : wl f n j t = if t = j / 4 then wl f n (j + 1) t * 65536 + f j else wl f n (j + 1) t := by
  unfold wl
  by_cases e : t = j / 4
  · rw [if_pos e, show 4 - (j - 4 * t) = (4 - (j + 1 - 4 * t)) + 1 by omega]
    show _ * 65536 + (if 4 * t + (3 - (4 - (j + 1 - 4 * t))) < n then _ else 0) = _
    rw [show 4 * t + (3 - (4 - (j + 1 - 4 * t))) = j by omega, if_pos hj]
  · rw [if_neg e, show 4 - (j - 4 * t) = 4 - (j + 1 - 4 * t) by omega]
theorem wl_bd {f : Nat → Int} {n : Nat} (h : ∀ i, i < n → 0 ≤ f i ∧ f i < 65536) (j : Nat) : 0 ≤ wl f n (j + 1) (j / 4) ∧ wl f n (j + 1) (j / 4) ≤ 281474976710655 := by
  unfold wl; exact jq_bd h _ _ (by omega)

set_option maxHeartbeats 1000000 in
set_option maxRecDepth 100000 in
theorem words_any (v : Value) (n : Nat) (f : Nat → Int) (w : World) (hn : n ≤ 17592186044412) (hf : ∀ i, i < n → 0 ≤ f i ∧ f i < 65536) (hr : RdA .i64 w v n f) :
    Calls Try.prog 124 #[v] w fun e w' => ∃ v', e = .returned v' ∧ FrN w' w.heap.size v' (dv 65536 f n) ∧ Below w.heap.size w w' := by
  obtain ⟨a, cap, rfl, h1, h2, h3⟩ := wd_get hr
  have H3 := Lib.hid h3
  have HF := Lib.hid hf
  clear h3 hr hf
  obtain ⟨K, hK⟩ : ∃ K, K = (n + 3) / 4 := ⟨_, rfl⟩
  have hKb : K ≤ 17592186044416 := by omega
  have mk : ∀ u : World, (Instr.makeSlice 54 (.int .i64 (((n : Int) + 3) / 4)) (.int .i64 (((n : Int) + 3) / 4))).run Try.prog u =
      .ok (.slice (some ⟨u.heap.size, 0, none⟩) K K) (u.alloc (.cells (madeCells #[.int .u64 0] K) 22)) := by
    rw [show ((n : Int) + 3) / 4 = (K : Int) by omega]; exact mk_wds K K (Nat.le_refl _) hKb
  have HK := Lib.hid hK
  clear hK
  go_enter Try.func124, Try.ntmps124
  go_wp2_with fail
  have hr0 := (CellsAt.row (f := fun _ => 0) (CellsAt.made w (.int .u64 0) K 22))
  have hk0 := Blk.made w (.int .u64 0) K 22
  have hg0 := World.grownBy_alloc w (.cells (madeCells #[.int .u64 0] K) 22) (some w.heap.size)
  have HR0 := Lib.hid hr0
  have HK0 := Lib.hid hk0
  have HG0 := Lib.hid hg0
  clear hr0 hk0 hg0 mk
  generalize w.alloc (.cells (madeCells #[.int .u64 0] K) 22) = w4 at HR0 HK0 HG0 ⊢
  go_loopw [4] (fun iv wr => ∃ c : Nat, c ≤ n ∧ iv = .int .i64 ((c : Int) - 1) ∧ RowAt .u64 wr w.heap.size 0 K (wl f n c) ∧ Blk wr w.heap.size K 22 ∧ w.grownBy wr (some w.heap.size)) (fun iv _ => (intOf iv + 1).toNat)
  case atStart => exact ⟨n, by omega, rfl, HR0.out.congr fun i _ => (wl_start f n i).symm, HK0.out, HG0.out⟩
  case round =>
    clear HR0 HK0 HG0
    obtain ⟨c, c1, rfl, hrow, hblk, hgr⟩ := hrel
    have HROW := Lib.hid hrow
    have HBLK := Lib.hid hblk
    clear hrow hblk
    rcases c with _ | j
    · have hrow : Hid (RowAt .u64 wr w.heap.size 0 K (joi f n)) := HROW.out.congr fun t _ => wl_zero f n t
      clear HROW
      go_wp2_with fail
      go_loop [5] (fun kv => ∃ k : Nat, k ≤ K ∧ Hid (sz (joi f n) k = sz (joi f n) K) ∧ kv = .int .i64 k) (fun kv => (intOf kv).toNat)
      case atStart => exact ⟨K, Nat.le_refl _, rfl, rfl⟩
      case round =>
        obtain ⟨k, k1, k2, rfl⟩ := hrel
        have fin : Hid (sz (joi f n) K = k) → ∃ v', Ending.returned (.slice (some ⟨w.heap.size, 0, none⟩) k K) = .returned v' ∧ FrN wr w.heap.size v' (dv 65536 f n) ∧ Below w.heap.size w wr := fun hk => by
          refine ⟨_, rfl, ⟨k, joi f n, FrA.mk' (Nat.le_refl _) HBLK.out (fun i hi => hrow.out i (by omega)) k1 (by omega), ?_⟩, (Below.refl _ _).grown hgr (Nat.le_refl _) fun q hq => by injection hq with hq; omega⟩
          have hv : dv 18446744073709551616 (joi f n) K = dv 65536 f n := by
            rw [joi_dv, dv_more (show n ≤ 4 * K by have := HK.out; omega) (fun i hi _ => if_neg (by omega))]
            exact dv_congr fun i hi => if_pos hi
          rw [← hk.out, ← hv]
          exact dig_sz fun i _ => joi_bd HF.out i
        have FIN := Lib.hid fin
        clear fin
        rcases Nat.eq_zero_or_pos k with e | hk
        · subst e
          have hk0 : Hid (sz (joi f n) K = 0) := by show _ = _; rw [← k2.out]; rfl
          go_wp2_with fail
          go_ret
          exact FIN.out hk0
        · obtain ⟨x, hx⟩ : ∃ x, x = joi f n (k - 1) := ⟨_, rfl⟩
          obtain ⟨q, hq⟩ : ∃ q, q = k - 1 := ⟨_, rfl⟩
          obtain ⟨hc, _⟩ := hrow.out.get0 (i := q) (by omega) (x := x) (by rw [hq, hx])
          have hk' : (0 : Int) < (k : Int) := by omega
          have hq1 : (k : Int) - 1 = (q : Int) := by omega
          have hq2 : q < K := by omega
          have HQ := Lib.hid hq
          have HX := Lib.hid hx
          clear hq hx
          by_cases hz : x = 0
          · have hzb : (x == 0) = true := beq_iff_eq.2 hz
            have HZ := Lib.hid hz
            clear hz
            go_wp2_with fail
            go_round
            case rel =>
              refine ⟨q, by omega, ?_, rfl⟩
              show _ = _
              rw [← k2.out, show k = q + 1 by have := HQ.out; omega]
              show _ = if joi f n q = 0 then sz (joi f n) q else q + 1
              rw [if_pos (by rw [HQ.out, ← HX.out]; exact HZ.out)]
            case measure => simp [intOf]; omega
          · have hzb : (x == 0) = false := beq_eq_false_iff_ne.2 hz
            have hfin : Hid (sz (joi f n) K = k) := by
              show _ = _
              rw [← k2.out, show k = q + 1 by have := HQ.out; omega]
              show (if joi f n q = 0 then sz (joi f n) q else q + 1) = _
              rw [if_neg (by rw [HQ.out, ← HX.out]; exact hz)]
            clear hz
            go_wp2_with fail
            go_ret
            exact FIN.out hfin
    · obtain ⟨b, o, rfl, hc⟩ := H3.out j (by omega)
      have hc := hgr.cell hc (by simp; have := World.block_lt_of_cell? w _ hc; simp at this; omega)
      obtain ⟨x, hx⟩ : ∃ x, x = f j := ⟨_, rfl⟩
      obtain ⟨x0, x1⟩ := HF.out j (by omega)
      obtain ⟨T, hT⟩ : ∃ T, T = j / 4 := ⟨_, rfl⟩
      obtain ⟨y, hy⟩ : ∃ y, y = wl f n (j + 1) T := ⟨_, rfl⟩
      obtain ⟨y0, y1⟩ := wl_bd HF.out j
      rw [← hT, ← hy] at y0 y1
      have hTK : T < K := by have := HK.out; omega
      obtain ⟨d1, d2⟩ := HROW.out.get0 (i := T) hTK (x := y) hy.symm
      rw [← hx] at hc x0 x1
      have hjT : (j : Int) / 4 = (T : Int) := by omega
      have hst : Hid (∀ t, (if t = T then y * 65536 + x else wl f n (j + 1) t) = wl f n j t) := fun t => by
        rw [wl_step f n j t (by omega), ← hT]
        by_cases e : t = T
        · rw [if_pos e, if_pos e, hx, hy, e]
        · rw [if_neg e, if_neg e]
      have hji : ((j + 1 : Nat) : Int) - 1 = (j : Int) := by omega
      have g1 : (j : Int).tdiv 4 = (T : Int) := by rw [Int.tdiv_eq_ediv_of_nonneg (by omega)]; exact hjT
      have g2 : IntKind.i64.wrap (T : Int) = T := IntWalk.i64_in _ (by omega)
      have g3 : IntKind.u64.wrap (y * 65536) = y * 65536 := IntWalk.u64_in _ (by omega)
      have g4 : IntKind.u64.wrap x = x := IntWalk.u64_in _ (by omega)
      have g5 : IntKind.u64.wrap (y * 65536 + x) = y * 65536 + x := IntWalk.u64_in _ (by omega)
      have g6 : (0 : Int) ≤ (T : Int) := by omega
      have g7 : (T : Int) < (K : Int) := by omega
      have g8 : (0 : Int) ≤ (j : Int) := by omega
      have g9 : (j : Int) < (n : Int) := by omega
      clear hx hT hy
      rw [hji]
      go_wp2_with fail
      go_region
      clear g1 g2 g3 g4 g5 g6 g7 g8 g9
      have hrow2 := (HROW.out.set0 hTK (y * 65536 + x)).congr fun t _ => hst.out t
      have hblk2 := HBLK.out.set T (.int .u64 (y * 65536 + x))
      have hgr2 := gb_trans hgr (gb_trans (gb_set wr ⟨w.heap.size, T, none⟩ (.int .u64 (y * 65536 + x))) (gb_drew _ _))
      have HN2 := Lib.hid (And.intro hrow2 (And.intro hblk2 hgr2))
      clear hrow2 hblk2 hgr2 HROW HBLK hgr
      go_wp2_with fail
      go_roundw
      case rel => exact ⟨j, by omega, by go_num, HN2.out.1.block rfl, HN2.out.2.1.grown (gb_drew _ none) (by simp), HN2.out.2.2⟩
      case measure => simp [intOf]

/-- the product so far: i rows done, j places of the next -/
structure MI (X Y : Nat → Int) (q K i j : Nat) (D : Nat → Int) (c : Int) : Prop where
  bd : ∀ t, 0 ≤ D t ∧ D t < 65536
  cb : 0 ≤ c ∧ c < 65536
  top : ∀ t, i + q ≤ t → D t = 0
  val : dv 65536 D K + c * 65536 ^ (i + j) = dv 65536 X i * dv 65536 Y q + X i * 65536 ^ i * dv 65536 Y j

theorem dv_upd (B : Int) (D : Nat → Int) (k : Nat) (v : Int) : ∀ {K : Nat}, k < K → dv B (fun t => if t = k then v else D t) K = dv B D K + (v - D k) * B ^ k
  | 0, h => absurd h (by omega)
  | K + 1, h => by
    simp only [dv]
    by_cases e : k = K
    · subst e
      rw [dv_congr (g := D) (fun i hi => if_neg (by omega)), if_pos rfl]; grind
    · rw [dv_upd B D k v (by omega), if_neg (by omega)]; grind

theorem mul_bd {x y d c : Int} (x0 : 0 ≤ x ∧ x < 65536) (y0 : 0 ≤ y ∧ y < 65536) (d0 : 0 ≤ d ∧ d < 65536) (c0 : 0 ≤ c ∧ c < 65536) :
    0 ≤ x * y ∧ x * y ≤ 4294836225 ∧ 0 ≤ (d + x * y + c) / 65536 ∧ (d + x * y + c) / 65536 < 65536 ∧ 0 ≤ (d + x * y + c) % 65536 ∧ (d + x * y + c) % 65536 < 65536 := by
  have h1 : 0 ≤ x * y := Int.mul_nonneg x0.1 y0.1
  have h2 : x * y ≤ 65535 * 65535 := Int.mul_le_mul (by omega) (by omega) y0.1 (by omega)
  omega

theorem MI.step {X Y : Nat → Int} {q K i j : Nat} {D : Nat → Int} {c : Int} (h : MI X Y q K i j D c) (hj : j < q) (hK : i + q ≤ K) (hX : 0 ≤ X i ∧ X i < 65536) (hY : 0 ≤ Y j ∧ Y j < 65536) :
    MI X Y q K i (j + 1) (fun t => if t = i + j then (D (i + j) + X i * Y j + c) % 65536 else D t) ((D (i + j) + X i * Y j + c) / 65536) := by
  obtain ⟨b1, b2, b3, b4, b5, b6⟩ := mul_bd hX hY (h.bd (i + j)) h.cb
  refine ⟨fun t => ?_, ⟨b3, b4⟩, fun t ht => ?_, ?_⟩
  · split
    · exact ⟨b5, b6⟩
    · exact h.bd t
  · rw [if_neg (by omega)]; exact h.top t ht
  · rw [dv_upd _ _ _ _ (by omega)]
    have hv := h.val
    simp only [dv]
    obtain ⟨s, hs⟩ : ∃ s, s = D (i + j) + X i * Y j + c := ⟨_, rfl⟩
    rw [← hs]
    have e : s % 65536 = s - 65536 * (s / 65536) := by omega
    rw [e, show i + (j + 1) = i + j + 1 by omega, Int.pow_succ]
    obtain ⟨u, hu⟩ : ∃ u, u = s / 65536 := ⟨_, rfl⟩
    rw [← hu]
    have hp : (65536 : Int) ^ (i + j) = 65536 ^ i * 65536 ^ j := Int.pow_add _ _ _
    rw [hp] at hv ⊢
    grind

theorem MI.row {X Y : Nat → Int} {q K i : Nat} {D : Nat → Int} {c : Int} (h : MI X Y q K i q D c) (hK : i + q < K) : MI X Y q K (i + 1) 0 (fun t => if t = i + q then c else D t) 0 := by
  refine ⟨fun t => ?_, by omega, fun t ht => ?_, ?_⟩
  · split
    · exact h.cb
    · exact h.bd t
  · rw [if_neg (by omega)]; exact h.top t (by omega)
  · rw [dv_upd _ _ _ _ hK, h.top (i + q) (Nat.le_refl _)]
    have hv := h.val
    simp only [dv] at hv ⊢
    grind

theorem MI.start (X Y : Nat → Int) (q K : Nat) : MI X Y q K 0 0 (fun _ => 0) 0 :=
  ⟨fun _ => by omega, by omega, fun _ _ => rfl, by rw [dv_zero (fun _ _ => rfl)]; simp [dv]⟩
theorem MI.next {X Y : Nat → Int} {q K i : Nat} {D : Nat → Int} {c : Int} (h : MI X Y q K i 0 D c) : MI X Y q K i 0 D 0 ↔ c = 0 ∨ MI X Y q K i 0 D 0 := ⟨Or.inr, fun h' => by
  rcases h' with e | h'
  · subst e; exact h
  · exact h'⟩

set_option maxHeartbeats 1000000 in
set_option maxRecDepth 100000 in
theorem Mul02_any (x y : Value) (n m : Nat) (f g : Nat → Int) (w : World) (hn : n ≤ 274877906944) (hm : m ≤ 274877906944) (hx : RdW w x n f) (hy : RdW w y m g) :
    Calls Try.prog 96 #[x, y] w fun e w' => ∃ v, e = .returned v ∧ FrN w' w.heap.size v (natFrom f 0 n * natFrom g 0 m) ∧ Below w.heap.size w w' := by
  have HX := Lib.hid hx
  have HY := Lib.hid hy
  have lt1 : natFrom f 0 n < 65536 ^ (4 * n) := by
    rw [natFrom_dv0, Int.pow_mul]; exact (dv_bd (by omega) (fun i hi => by have := hx.2 i hi; omega)).2
  have lt2 : natFrom g 0 m < 65536 ^ (4 * m) := by
    rw [natFrom_dv0, Int.pow_mul]; exact (dv_bd (by omega) (fun i hi => by have := hy.2 i hi; omega)).2
  have HL1 := Lib.hid lt1
  have HL2 := Lib.hid lt2
  obtain ⟨ax, cx, rfl, -⟩ := hx.1
  obtain ⟨ay, cy, rfl, -⟩ := hy.1
  clear hx hy lt1 lt2
  go_enter Try.func96, Try.ntmps96
  go_wp2_with fail
  refine (digits_any _ n f _ (by omega) HX.out).mono ?_
  rintro e w1 ⟨v1, rfl, ⟨p, f1, hf1, hd1⟩, hb1⟩
  have hp : p ≤ 4 * n := hd1.len (by omega) HL1.out
  obtain ⟨a1, k1, rfl⟩ := hf1.slice
  have HF1 := Lib.hid hf1
  have HD1 := Lib.hid hd1
  clear hf1 hd1
  go_wp2_with fail
  refine (digits_any _ m g _ (by omega) (HY.out.below hb1)).mono ?_
  rintro e w2 ⟨v2, rfl, ⟨q, f2, hf2, hd2⟩, hb2⟩
  have hq : q ≤ 4 * m := hd2.len (by omega) HL2.out
  obtain ⟨a2, k2, rfl⟩ := hf2.slice
  have HF1 := Lib.hid (HF1.out.below hb2)
  have HF2 := Lib.hid hf2
  have HD2 := Lib.hid hd2
  have HB := Lib.hid (hb1.trans (hb2.mono hb1.size))
  clear hf2 hd2 hb1 hb2
  obtain ⟨K, hK⟩ : ∃ K, K = p + q := ⟨_, rfl⟩
  have hKb : K ≤ 8796093022208 := by omega
  have mk : ∀ u : World, (Instr.makeSlice 45 (.int .i64 ((p : Int) + q)) (.int .i64 ((p : Int) + q))).run Try.prog u =
      .ok (.slice (some ⟨u.heap.size, 0, none⟩) K K) (u.alloc (.cells (madeCells #[.int .i64 0] K) 3)) := by
    rw [show (p : Int) + q = (K : Int) by omega]; exact mk_nums K K (Nat.le_refl _) (by omega)
  have HK := Lib.hid hK
  clear hK
  go_wp2_with fail
  have hr0 := (CellsAt.row (f := fun _ => 0) (CellsAt.made w2 (.int .i64 0) K 3))
  have hg0 := World.grownBy_alloc w2 (.cells (madeCells #[.int .i64 0] K) 3) (some w2.heap.size)
  obtain ⟨db, hdb⟩ : ∃ db, db = w2.heap.size := ⟨_, rfl⟩
  have hdw : w.heap.size ≤ db := by rw [hdb]; exact HB.out.size
  have hof1 := HF1.out.off
  have hof2 := HF2.out.off
  rw [← hdb] at hr0 hg0 hof1 hof2 ⊢
  have HR0 := Lib.hid hr0
  have HG0 := Lib.hid hg0
  have hat1 := fun (wr : World) (hg : w2.grownBy wr (some db)) => (wd_get (HF1.out.grown hg hof1).read)
  have hat2 := fun (wr : World) (hg : w2.grownBy wr (some db)) => (wd_get (HF2.out.grown hg hof2).read)
  have HA1 := Lib.hid hat1
  have HA2 := Lib.hid hat2
  clear hr0 hg0 hof1 hof2 hat1 hat2 mk hdb
  generalize w2.alloc (.cells (madeCells #[.int .i64 0] K) 3) = w4 at HR0 HG0 ⊢
  go_loopw [8] (fun iv wr => ∃ (i : Nat) (D : Nat → Int), i ≤ p ∧ iv = .int .i64 i ∧ MI f1 f2 q K i 0 D 0 ∧ RowAt .i64 wr db 0 K D ∧ w2.grownBy wr (some db)) (fun iv _ => p - (intOf iv).toNat)
  case atStart => exact ⟨0, fun _ => 0, by omega, rfl, MI.start _ _ _ _, HR0.out, HG0.out⟩
  case round =>
    clear HR0 HG0
    obtain ⟨i, D, i1, rfl, hmi, hrow, hgr⟩ := hrel
    have HMI := Lib.hid hmi
    have HROW := Lib.hid hrow
    clear hmi hrow
    by_cases hi : i < p
    · go_wp2_with fail
      go_loopw [9, 10] (fun cv jv wr => ∃ (j : Nat) (D : Nat → Int) (c : Int), j ≤ q ∧ jv = .int .i64 j ∧ cv = .int .i64 c ∧ MI f1 f2 q K i j D c ∧ RowAt .i64 wr db 0 K D ∧ w2.grownBy wr (some db)) (fun _ jv _ => q - (intOf jv).toNat)
      case atStart => exact ⟨0, D, 0, by omega, rfl, rfl, HMI.out, HROW.out, hgr⟩
      case round =>
        clear HMI HROW hgr D
        obtain ⟨j, D, c, j1, rfl, rfl, hmi, hrow, hgr⟩ := hrel
        have HMI := Lib.hid hmi
        have HROW := Lib.hid hrow
        obtain ⟨c0, c1⟩ := hmi.cb
        clear hmi hrow
        by_cases hj : j < q
        · obtain ⟨_, _, e1, -, -, hcell⟩ := HA1.out wr hgr
          simp only [Value.slice.injEq, true_and] at e1
          obtain ⟨b1, o1, rfl, hc1⟩ := hcell i hi
          obtain ⟨rfl, rfl⟩ := e1
          clear hcell
          obtain ⟨_, _, e1, -, -, hcell⟩ := HA2.out wr hgr
          simp only [Value.slice.injEq, true_and] at e1
          obtain ⟨b2, o2, rfl, hc2⟩ := hcell j hj
          obtain ⟨rfl, rfl⟩ := e1
          clear hcell
          obtain ⟨x0, x1⟩ := HD1.out.bd i hi
          obtain ⟨y0, y1⟩ := HD2.out.bd j hj
          obtain ⟨d0, d1⟩ := HMI.out.bd (i + j)
          obtain ⟨t, ht⟩ : ∃ t, t = i + j := ⟨_, rfl⟩
          have htK : t < K := by have := HK.out; omega
          obtain ⟨q1, q2⟩ := HROW.out.get0 (i := t) htK rfl
          have hm2 := HMI.out.step hj (by have := HK.out; omega) ⟨x0, x1⟩ ⟨y0, y1⟩
          rw [← ht] at d0 d1 hm2
          obtain ⟨xv, hxv⟩ : ∃ xv, xv = f1 i := ⟨_, rfl⟩
          obtain ⟨yv, hyv⟩ : ∃ yv, yv = f2 j := ⟨_, rfl⟩
          obtain ⟨dvv, hdv⟩ : ∃ dvv, dvv = D t := ⟨_, rfl⟩
          rw [← hxv] at hc1 x0 x1 hm2
          rw [← hyv] at hc2 y0 y1 hm2
          rw [← hdv] at q1 d0 d1 hm2
          obtain ⟨b1', b2', b3', b4', b5', b6'⟩ := mul_bd ⟨x0, x1⟩ ⟨y0, y1⟩ ⟨d0, d1⟩ ⟨c0, c1⟩
          have hrow2 := HROW.out.set0 htK ((dvv + xv * yv + c) % 65536)
          have HM2 := Lib.hid hm2
          have HROW2 := Lib.hid hrow2
          have hij : (i : Int) + j = (t : Int) := by omega
          have g1 : IntKind.i64.wrap (t : Int) = t := IntWalk.i64_in _ (by omega)
          have g2 : IntKind.i64.wrap ((i : Int) + j) = t := by rw [hij]; exact g1
          have g3 : IntKind.i64.wrap (xv * yv) = xv * yv := IntWalk.i64_in _ (by omega)
          have g4 : IntKind.i64.wrap (dvv + xv * yv) = dvv + xv * yv := IntWalk.i64_in _ (by omega)
          have g5 : IntKind.i64.wrap (dvv + xv * yv + c) = dvv + xv * yv + c := IntWalk.i64_in _ (by omega)
          have g6 : (0 : Int) ≤ t := by omega
          have g7 : (t : Int) < K := by omega
          clear hxv hyv hdv hm2 hrow2 ht
          go_wp2_with fail
          go_region
          clear g2 g3 g4 g5
          obtain ⟨s, hs⟩ : ∃ s, s = dvv + xv * yv + c := ⟨_, rfl⟩
          rw [← hs] at HM2 HROW2 b3' b4' b5' b6' ⊢
          have hs0 : 0 ≤ s := by omega
          have hs1 : s ≤ 4294967295 := by omega
          have hrow3 : RowAt .i64 (wr.drew.setCell ⟨db, t, none⟩ (.int .i64 (s % 65536))) db 0 K (fun i => if i = t then s % 65536 else D i) := HROW2.out.block rfl
          have hgr3 := gb_trans hgr (gb_trans (gb_drew wr (some db)) (gb_set wr.drew ⟨db, t, none⟩ (.int .i64 (s % 65536))))
          have HN := Lib.hid (And.intro hrow3 hgr3)
          clear hs hrow3 hgr3 hgr HROW HROW2 b1' b2'
          go_wp2_with fail
          go_roundw
          case rel => exact ⟨j + 1, _, _, by omega, by go_num, rfl, HM2.out, HN.out.1, HN.out.2⟩
          case measure => simp [intOf]; omega
        · obtain rfl : j = q := by omega
          have hK2 : i + j < K := by have := HK.out; omega
          obtain ⟨q1, q2⟩ := HROW.out.get0 (i := i + j) hK2 (x := 0) (HMI.out.top _ (Nat.le_refl _))
          have hm2 := HMI.out.row hK2
          have hrow2 := HROW.out.set0 hK2 c
          have hgr2 := gb_trans hgr (gb_set wr ⟨db, i + j, none⟩ (.int .i64 c))
          have HM2 := Lib.hid hm2
          have HN := Lib.hid (And.intro hrow2 hgr2)
          have hi63 : (i : Int) + j < K := by omega
          clear hm2 hrow2 hgr2 HMI HROW hgr
          go_wp2_with fail
          go_roundw
          case rel => exact ⟨i + 1, _, by omega, by go_num, HM2.out, HN.out.1, HN.out.2⟩
          case measure => simp [intOf]; omega
    · obtain rfl : i = p := by omega
      have hval : dv 65536 D K = natFrom f 0 n * natFrom g 0 m := by
        have h1 := HMI.out.val
        simp only [dv] at h1
        rw [HD1.out.val, HD2.out.val] at h1
        simpa using h1
      have hread : RdA .i64 wr (.slice (some ⟨db, 0, none⟩) K K) K D := ⟨_, K, rfl, Nat.le_refl _, by omega, fun _ => ⟨db, 0, rfl, fun t ht => (HROW.out t ht).1⟩⟩
      have hw := words_any _ K D wr (by omega) (fun t _ => HMI.out.bd t) hread
      rw [hval] at hw
      have HW := Lib.hid hw
      have HBW := Lib.hid (HB.out.grown hgr HB.out.size (fun k hk => by injection hk with hk; omega))
      clear hval hread hw hgr HMI HROW
      go_wp2_with fail
      refine HW.out.mono ?_
      rintro e w6 ⟨v6, rfl, hfn, hb6⟩
      obtain ⟨a6, n6, cap6, f6, rfl, h1, h2⟩ := hfn.nat
      have H1 := Lib.hid (h1.mono HBW.out.size)
      have H2 := Lib.hid h2
      clear h1 h2 hfn
      go_wp2_with fail
      go_ret
      exact ⟨_, rfl, ⟨n6, f6, H1.out, H2.out⟩, HBW.out.trans (hb6.mono HBW.out.size)⟩

end Go.Proofs.Ytdlpemmoobbgnaa
