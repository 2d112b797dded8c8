/- The walks of the law's least, zero (where they answer yes), and of. The walks of trellisref09.blank and Turn. The walk of trellisref09.Turn. Products of matrices: the sums, what a walk keeps, trellisref09.both. The walk of trellisref09.Mul. -/
import Derived.Test.YtdlpemmoobbgnaaGE
import Derived.Test.YtdlpemmoobbgnaaGC
import Derived.Deep.RegionHeld3
set_option linter.unusedVariables false
set_option linter.unusedSimpArgs false
namespace Go.Proofs.Ytdlpemmoobbgnaa
open Go.RowKit

/-- small from 0 on, below p, in least form -/
def SmallB (p : Int) (r : Raw) : Prop := r.neg = false ∧ (r.n = 0 ∨ (r.n = 1 ∧ 0 < r.f 0 ∧ r.f 0 < p))

theorem SmallB.small {p y : Int} (h0 : 0 ≤ y) (h1 : y < p) : SmallB p (small y) := by
  refine ⟨rfl, ?_⟩
  show w1 y = 0 ∨ (w1 y = 1 ∧ 0 < y ∧ y < p)
  unfold w1; split
  · exact Or.inl rfl
  · exact Or.inr ⟨rfl, by omega, h1⟩

set_option maxHeartbeats 1000000 in
set_option maxRecDepth 100000 in
theorem least_yes (x : Value) (n : Nat) (X : Nat → Raw) (p : Int) (w : World) (hx : RdL w x n X) (h : ∀ i, i < n → SmallB p (X i)) :
    Calls Try.prog 22 #[x, .int .u64 p] w fun e w' => e = .returned (.bool true) ∧ w = w' := by
  obtain ⟨a, cap, rfl, h1, h2, h3⟩ := hx
  have H3 := Lib.hid h3
  have HE := Lib.hid h
  clear h3 h
  go_enter Try.func22, Try.ntmps22
  go_wp2_with fail
  go_loop [5] (fun kv => ∃ k : Nat, k ≤ n ∧ kv = .int .i64 k) (fun kv => n - (intOf kv).toNat)
  case atStart => exact ⟨0, Nat.zero_le _, rfl⟩
  case round =>
    obtain ⟨k, k1, rfl⟩ := hrel
    by_cases hk : k < n
    · obtain ⟨b1, o1, rfl, hc⟩ := H3.out (by omega)
      obtain ⟨m1, c1, c2, c3⟩ := hc k hk
      obtain ⟨e1, e2⟩ := HE.out k hk
      obtain ⟨am, cm, rfl, q1, q2, q3⟩ := c3.1
      rw [e1] at c1
      clear hc c3
      rcases e2 with e2 | ⟨e2, p0, p1⟩
      · rw [e2] at c2
        have E2 := Lib.hid e2
        clear e2 q3 q1 q2
        go_wp2_with fail
        go_round
        case rel => exact ⟨k + 1, by omega, by go_num⟩
        case measure => simp [intOf]; omega
      · rw [e2] at c2 q3
        obtain ⟨b2, o2, eb, q5⟩ := q3 (by omega)
        subst eb
        have q4 := q5 0 (by omega)
        rw [Nat.add_zero] at q4
        generalize (X k).f 0 = y at q4 p0 p1
        have hy0 : (y == 0) = false := beq_eq_false_iff_ne.2 (by omega)
        have hyp : decide (p ≤ y) = false := by rw [decide_eq_false_iff_not]; omega
        have E2 := Lib.hid e2
        clear e2 q3 q5 q1 q2
        go_wp2_with fail
        go_round
        case rel => exact ⟨k + 1, by omega, by go_num⟩
        case measure => simp [intOf]; omega
    · go_wp2_with fail
      go_ret
      exact ⟨rfl, rfl⟩

/-- a box just made stays -/
theorem box_kept {w8 w9 : World} {t : TypeId} (h : Below (w8.alloc (.cells #[.bool false, .slice none 0 0] t)).heap.size (w8.alloc (.cells #[.bool false, .slice none 0 0] t)) w9) :
    w9.cell? ⟨w8.heap.size, 0, none⟩ = some (.bool false) ∧ w9.cell? ⟨w8.heap.size, 1, none⟩ = some (.slice none 0 0) ∧ w9.frozen? ⟨w8.heap.size, 0, none⟩ = false ∧ w9.frozen? ⟨w8.heap.size, 1, none⟩ = false := by
  have k := cells2 w8 (.bool false) (.slice none 0 0) t
  exact ⟨cell_stays h (k 0 _ rfl).1, cell_stays h (k 1 _ rfl).1, froz_stays h (k 0 _ rfl).1 (k 0 _ rfl).2, froz_stays h (k 1 _ rfl).1 (k 1 _ rfl).2⟩
theorem box_kept' {wr w9 : World} {t : TypeId} (h : Below (wr.alloc (.cells #[.bool false, .slice none 0 0] t)).drew.heap.size (wr.alloc (.cells #[.bool false, .slice none 0 0] t)).drew w9) :
    w9.cell? ⟨wr.heap.size, 0, none⟩ = some (.bool false) ∧ w9.cell? ⟨wr.heap.size, 1, none⟩ = some (.slice none 0 0) ∧ w9.frozen? ⟨wr.heap.size, 0, none⟩ = false ∧ w9.frozen? ⟨wr.heap.size, 1, none⟩ = false :=
  box_kept (w8 := wr) (below_drew h)
theorem kept4 {w8 w9 : World} {a b : Addr} {x y : Value} (h : Below w8.heap.size w8 w9) (j0 : w8.cell? a = some x) (j1 : w8.cell? b = some y) (j2 : w8.frozen? a = false) (j3 : w8.frozen? b = false) :
    w9.cell? a = some x ∧ w9.cell? b = some y ∧ w9.frozen? a = false ∧ w9.frozen? b = false := ⟨cell_stays h j0, cell_stays h j1, froz_stays h j0 j2, froz_stays h j1 j3⟩

/-- a number of one word -/
theorem ofZ_any (p : Int) (h0 : 0 ≤ p) (h1 : p ≤ 18446744073709551615) (w : World) :
    Calls Try.prog 37 #[.int .u64 p] w fun e w' => ∃ b, e = .returned (.agg #[.bool false, .slice (some ⟨b, 0, none⟩) 1 1]) ∧ RdZ w' (.agg #[.bool false, .slice (some ⟨b, 0, none⟩) 1 1]) p ∧ Below w.heap.size w w' := by
  refine (of_any p w).mono ?_
  rintro e w' ⟨b, rfl, hc, hb⟩
  refine ⟨b, rfl, ⟨⟨false, 1, fun _ => p⟩, ⟨_, rfl, ⟨_, 1, rfl, Nat.le_refl _, (by decide : (1 : Nat) ≤ 17592186044416), fun _ => ⟨b, 0, rfl, fun i hi => ?_⟩⟩, fun _ _ => ⟨h0, h1⟩⟩, ?_, (by decide : (1 : Nat) ≤ 274877906944)⟩, hb⟩
  · have hi : i < 1 := hi
    obtain rfl : i = 0 := by omega
    exact hc
  · simp [Raw.val, Raw.mag, natFrom]

theorem ModZ_any (x y : Value) (a b : Int) (w : World) (hb0 : b ≠ 0) (hx : RdZ w x a) (hy : RdZ w y b) (h : a % b = 0) :
    Calls Try.prog 52 #[x, y] w fun e w' => ∃ ar cr, e = .returned (.tuple #[.agg #[.bool false, .slice ar 0 cr], .int .i64 0]) ∧ Below w.heap.size w w' := by
  refine (Mod_any x y a b w hb0 hx hy).mono ?_
  rw [h]
  rintro e w' ⟨v, rfl, ⟨m, n, f, rfl, h1, h2⟩, hb⟩
  obtain ⟨ar, cr, rfl⟩ := h1.slice
  obtain rfl : n = 0 := (h2.zero_iff (by omega)).2 rfl
  exact ⟨ar, cr, rfl, hb⟩

set_option maxHeartbeats 4000000 in
set_option maxRecDepth 100000 in
theorem zero_yes (x : Value) (n : Nat) (X : Nat → Raw) (p : Int) (hp : 0 < p) (hp1 : p ≤ 18446744073709551615) (w : World) (hx : RdL w x n X) (h : ∀ i, i < n → (X i).n ≤ 274877906944 ∧ (X i).val % p = 0) :
    Calls Try.prog 24 #[x, .int .u64 p] w fun e w' => e = .returned (.bool true) ∧ Below w.heap.size w w' := by
  obtain ⟨a, cap, rfl, h1, h2, h3⟩ := hx
  have H3 := Lib.hid h3
  have HE := Lib.hid h
  clear h3 h
  go_enter Try.func24, Try.ntmps24
  go_wp2_with fail
  go_loopw [5] (fun kv wr => ∃ k : Nat, k ≤ n ∧ kv = .int .i64 k ∧ Below w.heap.size w wr) (fun kv _ => n - (intOf kv).toNat)
  case atStart => exact ⟨0, Nat.zero_le _, rfl, Below.refl _ _⟩
  case round =>
    obtain ⟨k, k1, rfl, hb⟩ := hrel
    by_cases hk : k < n
    · obtain ⟨b1, o1, rfl, hc⟩ := H3.out (by omega)
      obtain ⟨m1, c1, c2, c3⟩ := hc k hk
      obtain ⟨e1, e2⟩ := HE.out k hk
      have hrz : RdZ wr (.agg #[.bool (X k).neg, m1]) (X k).val := ⟨X k, ⟨m1, rfl, c3.below hb⟩, rfl, e1⟩
      obtain ⟨am, cm, rfl, -⟩ := c3.1
      have c1 := cell_stays hb c1
      have c2 := cell_stays hb c2
      have HRZ := Lib.hid hrz
      have HE2 := Lib.hid e2
      have cm1 : ∀ W, Below wr.heap.size wr W → Calls Try.prog 37 #[.int .u64 p] W fun e w' => ∃ b, e = .returned (.agg #[.bool false, .slice (some ⟨b, 0, none⟩) 1 1]) ∧ RdZ w' (.agg #[.bool false, .slice (some ⟨b, 0, none⟩) 1 1]) p ∧ Below wr.heap.size wr w' ∧ Below W.heap.size W w' := fun W hW => by
        refine (ofZ_any p (by omega) hp1 W).mono ?_
        rintro e w' ⟨b, h1, h2, h3⟩
        exact ⟨b, h1, h2, hW.trans (h3.mono hW.size), h3⟩
      have CM1 := Lib.hid cm1
      have cm2 : ∀ W (y : Value), Below wr.heap.size wr W → RdZ W y p → Calls Try.prog 52 #[.agg #[.bool (X k).neg, .slice am (X k).n cm], y] W fun e w' => ∃ ar cr, e = .returned (.tuple #[.agg #[.bool false, .slice ar 0 cr], .int .i64 0]) ∧ Below wr.heap.size wr w' ∧ Below W.heap.size W w' := fun W y hW hy => by
        refine (ModZ_any _ _ _ _ W (by omega) (HRZ.out.below hW) hy HE2.out).mono ?_
        rintro e w' ⟨ar, cr, h1, h3⟩
        exact ⟨ar, cr, h1, hW.trans (h3.mono hW.size), h3⟩
      have CM2 := Lib.hid cm2
      clear cm2
      generalize (X k).neg = ng at *
      generalize (X k).n = nn at *
      clear hc c3 hrz e1 e2 cm1
      have f1 : b1 < wr.heap.size := World.block_lt_of_cell? wr _ c1
      go_wp2_with fail
      go_region_with ((first
        | (go_at_call 37; (with_reducible refine (CM1.out wr.drew ?_).mono ?_); exact (Below.refl _ _).drew; rintro e w8 ⟨b8, rfl, hz8, hb8, hc8⟩; have HZ8 := Lib.hid hz8; clear hz8; have f8 := Nat.lt_of_lt_of_le f1 hb8.size; have c1 := cell_stays hb8 c1; have c2 := cell_stays hb8 c2)
        | (go_at_call 37; (with_reducible refine (CM1.out (wr.alloc (.cells #[.bool false, .slice none 0 0] 56)).drew ?_).mono ?_); exact ((Below.refl _ _).alloc (Nat.le_refl _) _).drew; rintro e w7 ⟨b8, rfl, hz8, hb8, hc8⟩; have HZ8 := Lib.hid hz8; clear hz8; have f8 := Nat.lt_of_lt_of_le f1 hb8.size; have c1 := cell_stays hb8 c1; have c2 := cell_stays hb8 c2; obtain ⟨j0, j1, j2, j3⟩ := box_kept' hc8)
        | (go_at_call 52; (with_reducible refine (CM2.out w8 _ hb8 HZ8.out).mono ?_); rintro e w9 ⟨ar, cr, rfl, hb9, hc9⟩)
        | (go_at_call 52; (with_reducible refine (CM2.out (w8.alloc (.cells #[.bool false, .slice none 0 0] 56)) _ (hb8.alloc hb8.size _) (HZ8.out.below ((Below.refl _ _).alloc (Nat.le_refl _) _))).mono ?_); rintro e w9 ⟨ar, cr, rfl, hb9, hc9⟩; obtain ⟨j0, j1, j2, j3⟩ := box_kept hc9)
        | (go_at_call 52; (with_reducible refine (CM2.out w7 _ hb8 HZ8.out).mono ?_); rintro e w9 ⟨ar, cr, rfl, hb9, hc9⟩; obtain ⟨j0, j1, j2, j3⟩ := kept4 hc9 j0 j1 j2 j3)))
      all_goals
        have HB9 := Lib.hid (hb.trans (hb9.mono hb.size))
        have q1 := hb.size
        have q2 := hb8.size
        clear hb8 hb9 hc8 hc9 CM1 CM2
        go_wp2_with fail
        go_roundw
        case rel =>
          refine ⟨k + 1, by omega, by go_num, ?_⟩
          first
            | exact HB9.out.alloc HB9.out.size _
            | exact (HB9.out.setCell (by simp; omega) _).setCell (by simp; omega) _
        case measure => simp [intOf]; omega
    · go_wp2_with fail
      go_ret
      exact ⟨rfl, hb⟩

end Go.Proofs.Ytdlpemmoobbgnaa

namespace Go.Proofs.Ytdlpemmoobbgnaa
open Go.RowKit

set_option maxHeartbeats 400000 in
theorem blank_any (R C : Nat) (hR : R ≤ 64) (hC : C ≤ 64) (w : World) :
    Calls Try.prog 39 #[.int .i64 R, .int .i64 C] w fun e w' => ∃ lb, e = .returned (.agg #[.int .i64 R, .int .i64 C, .slice (some ⟨lb, 0, none⟩) (R * C) (R * C)]) ∧
      ZG 56 w' w.heap.size w'.heap.size lb (R * C) (fun _ => 0) ∧ Below w.heap.size w w' := by
  obtain ⟨m0, m1⟩ := prod64 (r := R) (c := C) (by omega) (by omega)
  have mk := mk_full R C hR hC
  have z := three_cells w (.int .i64 R) (.int .i64 C) (.slice (some ⟨w.heap.size + 1, 0, none⟩) (R * C) (R * C)) 34
  have hb := (Below.refl (w.alloc (.cells #[.int .i64 R, .int .i64 C, .slice (some ⟨w.heap.size + 1, 0, none⟩) (R * C) (R * C)] 34)).heap.size (w.alloc (.cells #[.int .i64 R, .int .i64 C, .slice (some ⟨w.heap.size + 1, 0, none⟩) (R * C) (R * C)] 34))).alloc (Nat.le_refl _) (.cells (madeCells #[.bool false, .slice none 0 0] (R * C * 2)) 56)
  have r0 := cell_stays hb (z 0 _ rfl).1
  have r1 := cell_stays hb (z 1 _ rfl).1
  have r2 := cell_stays hb (z 2 _ rfl).1
  have h := ZG.start (T := 56) (base := w.heap.size) (bm := w.heap.size + 2) (w.alloc (.cells #[.int .i64 R, .int .i64 C, .slice (some ⟨w.heap.size + 1, 0, none⟩) (R * C) (R * C)] 34)) (by simp) (by simp) (R * C)
  rw [show (w.alloc (.cells #[.int .i64 R, .int .i64 C, .slice (some ⟨w.heap.size + 1, 0, none⟩) (R * C) (R * C)] 34)).heap.size = w.heap.size + 1 by simp] at h
  have H := Lib.hid h
  clear z hb h
  go_enter Try.func39, Try.ntmps39
  go_wp2_with fail
  refine bodyPost_ret (v := .agg #[.int .i64 R, .int .i64 C, .slice (some ⟨w.heap.size + 1, 0, none⟩) (R * C) (R * C)]) ?_ rfl ⟨w.heap.size + 1, rfl, ?_, ((Below.refl _ _).alloc (Nat.le_refl _) _).alloc (by simp) _⟩
  · simp [results, Try.results39, go_sem, r0, r1, r2]
  · simpa using H.out

/-- the value s reads as n integers z 0, z 1, .., of at most S words each -/
def RdN (w : World) (s : Value) (n : Nat) (z : Nat → Int) (S : Nat) : Prop := ∃ x, RdL w s n x ∧ ∀ q, q < n → (x q).n ≤ S ∧ (x q).val = z q
theorem RdN.below {w w' : World} {s : Value} {n : Nat} {z : Nat → Int} {S : Nat} (h : RdN w s n z S) (hb : Below w.heap.size w w') : RdN w' s n z S := by
  obtain ⟨x, h1, h2⟩ := h
  exact ⟨x, h1.below hb, h2⟩
theorem RdN.slice {w : World} {s : Value} {n : Nat} {z : Nat → Int} {S : Nat} (h : RdN w s n z S) : ∃ a cap, s = .slice a n cap ∧ n ≤ 17592186044416 := by
  obtain ⟨x, h1, -⟩ := h
  exact h1.slice
theorem RdN.at {w : World} {a : Option Addr} {n cap : Nat} {z : Nat → Int} {S : Nat} (h : RdN w (.slice a n cap) n z S) (hS : S ≤ 274877906944) {k : Nat} (hk : k < n) :
    ∃ b o g ad nd cd, a = some ⟨b, o, none⟩ ∧ w.cell? ⟨b, o + k * 2, none⟩ = some (.bool g) ∧ w.cell? ⟨b, o + k * 2 + 1, none⟩ = some (.slice ad nd cd) ∧ RdZ w (.agg #[.bool g, .slice ad nd cd]) (z k) ∧ ZB S (z k) := by
  obtain ⟨x, ⟨a', cap', e, -, -, h1⟩, h2⟩ := h
  injection e with e1 e2 e3
  subst e1
  obtain ⟨b, o, rfl, hc⟩ := h1 (by omega)
  obtain ⟨m, c0, c1, c2⟩ := hc k hk
  obtain ⟨g1, g2⟩ := h2 k hk
  obtain ⟨ad, cd, rfl, -⟩ := c2.1
  have hz : RdZ w (.agg #[.bool (x k).neg, .slice ad (x k).n cd]) (z k) := ⟨x k, ⟨_, rfl, c2⟩, g2, by omega⟩
  refine ⟨b, o, _, ad, _, cd, rfl, c0, c1, hz, ?_⟩
  have hb : ZB (x k).n (x k).val := RdI.zb ⟨_, rfl, c2⟩
  rw [g2] at hb
  exact hb.mono g1

structure TuS (w wr : World) (R C : Nat) (s : Value) (lb nb : Nat) (z : Nat → Int) : Prop where
  zg : ZG 56 wr w.heap.size nb lb (C * R) z
  bel : Below w.heap.size w wr
  lo : w.heap.size + 2 ≤ lb
  lt : nb < wr.heap.size
  x : wr.cell? ⟨w.heap.size, 0, none⟩ = some (.int .i64 R) ∧ wr.cell? ⟨w.heap.size, 1, none⟩ = some (.int .i64 C) ∧ wr.cell? ⟨w.heap.size, 2, none⟩ = some s
  y : wr.cell? ⟨w.heap.size + 1, 0, none⟩ = some (.int .i64 0) ∧ wr.cell? ⟨w.heap.size + 1, 1, none⟩ = some (.int .i64 0) ∧ wr.cell? ⟨w.heap.size + 1, 2, none⟩ = some (.slice none 0 0)
  f : wr.frozen? ⟨w.heap.size + 1, 0, none⟩ = false ∧ wr.frozen? ⟨w.heap.size + 1, 1, none⟩ = false ∧ wr.frozen? ⟨w.heap.size + 1, 2, none⟩ = false
  m : wr.cell? ⟨nb, 0, none⟩ = some (.int .i64 C) ∧ wr.cell? ⟨nb, 1, none⟩ = some (.int .i64 R) ∧ wr.cell? ⟨nb, 2, none⟩ = some (.slice (some ⟨lb, 0, none⟩) (C * R) (C * R))

theorem TuS.below {w wr w' : World} {R C : Nat} {s : Value} {lb nb : Nat} {z : Nat → Int} (h : TuS w wr R C s lb nb z) (hb : Below wr.heap.size wr w') : TuS w w' R C s lb nb z :=
  ⟨h.zg.below hb, h.bel.trans (hb.mono h.bel.size), h.lo, Nat.lt_of_lt_of_le h.lt hb.size, ⟨cell_stays hb h.x.1, cell_stays hb h.x.2.1, cell_stays hb h.x.2.2⟩,
    ⟨cell_stays hb h.y.1, cell_stays hb h.y.2.1, cell_stays hb h.y.2.2⟩, ⟨froz_stays hb h.y.1 h.f.1, froz_stays hb h.y.2.1 h.f.2.1, froz_stays hb h.y.2.2 h.f.2.2⟩,
    ⟨cell_stays hb h.m.1, cell_stays hb h.m.2.1, cell_stays hb h.m.2.2⟩⟩

theorem TuS.put {w w8 : World} {R C : Nat} {s : Value} {lb nb : Nat} {z : Nat → Int} (h : TuS w w8 R C s lb nb z) {k : Nat} (hk : k < C * R) {y : Int} {base : Nat} {a : Option Addr} {m c : Nat} (hz : FrZ w8 base (.agg #[.bool (decide (y < 0)), .slice a m c]) y) (hbase : nb ≤ base) {z' : Nat → Int}
    (hz' : ∀ q, q < C * R → (if q = k then y else z q) = z' q) : TuS w ((w8.setCell ⟨lb, k * 2, none⟩ (.bool (decide (y < 0)))).setCell ⟨lb, k * 2 + 1, none⟩ (.slice a m c)) R C s lb nb z' := by
  have hg : w8.grownBy ((w8.setCell ⟨lb, k * 2, none⟩ (.bool (decide (y < 0)))).setCell ⟨lb, k * 2 + 1, none⟩ (.slice a m c)) (some lb) := gb_trans (gb_set _ _ _) (gb_set _ _ _)
  have l1 := h.lo
  have l2 := h.zg.lt
  have hc : ∀ {b o : Nat} {v : Value}, b ≠ lb → w8.cell? ⟨b, o, none⟩ = some v → ((w8.setCell ⟨lb, k * 2, none⟩ (.bool (decide (y < 0)))).setCell ⟨lb, k * 2 + 1, none⟩ (.slice a m c)).cell? ⟨b, o, none⟩ = some v := fun hb hv => hg.cell hv (by intro e; injection e with e; exact hb e)
  have hf : ∀ b : Addr, ((w8.setCell ⟨lb, k * 2, none⟩ (.bool (decide (y < 0)))).setCell ⟨lb, k * 2 + 1, none⟩ (.slice a m c)).frozen? b = w8.frozen? b := fun b => by rw [World.frozen?_setCell, World.frozen?_setCell]
  refine ⟨(h.zg.put hk (hz.mono hbase)).congr hz', (h.bel.setCell (by show w.heap.size ≤ lb; omega) _).setCell (by show w.heap.size ≤ lb; omega) _, h.lo, Nat.lt_of_lt_of_le h.lt hg.size, ⟨hc (by omega) h.x.1, hc (by omega) h.x.2.1, hc (by omega) h.x.2.2⟩, ⟨hc (by omega) h.y.1, hc (by omega) h.y.2.1, hc (by omega) h.y.2.2⟩, ⟨?_, ?_, ?_⟩, ⟨hc (by omega) h.m.1, hc (by omega) h.m.2.1, hc (by omega) h.m.2.2⟩⟩
  · rw [hf]; exact h.f.1
  · rw [hf]; exact h.f.2.1
  · rw [hf]; exact h.f.2.2
end Go.Proofs.Ytdlpemmoobbgnaa

namespace Go.Proofs.Ytdlpemmoobbgnaa
open Go.RowKit

/-- the boxes of a matrix handed in and of the result -/
theorem two_boxes (w : World) (r c s : Value) (t : TypeId) :
    ((((w.alloc (.cells #[r, c, s] t)).alloc (.cells #[.int .i64 0, .int .i64 0, .slice none 0 0] t)).cell? ⟨w.heap.size, 0, none⟩ = some r ∧ ((w.alloc (.cells #[r, c, s] t)).alloc (.cells #[.int .i64 0, .int .i64 0, .slice none 0 0] t)).cell? ⟨w.heap.size, 1, none⟩ = some c ∧ ((w.alloc (.cells #[r, c, s] t)).alloc (.cells #[.int .i64 0, .int .i64 0, .slice none 0 0] t)).cell? ⟨w.heap.size, 2, none⟩ = some s)) ∧
    ((((w.alloc (.cells #[r, c, s] t)).alloc (.cells #[.int .i64 0, .int .i64 0, .slice none 0 0] t)).cell? ⟨w.heap.size + 1, 0, none⟩ = some (.int .i64 0) ∧ ((w.alloc (.cells #[r, c, s] t)).alloc (.cells #[.int .i64 0, .int .i64 0, .slice none 0 0] t)).cell? ⟨w.heap.size + 1, 1, none⟩ = some (.int .i64 0) ∧ ((w.alloc (.cells #[r, c, s] t)).alloc (.cells #[.int .i64 0, .int .i64 0, .slice none 0 0] t)).cell? ⟨w.heap.size + 1, 2, none⟩ = some (.slice none 0 0))) ∧
    ((((w.alloc (.cells #[r, c, s] t)).alloc (.cells #[.int .i64 0, .int .i64 0, .slice none 0 0] t)).frozen? ⟨w.heap.size + 1, 0, none⟩ = false ∧ ((w.alloc (.cells #[r, c, s] t)).alloc (.cells #[.int .i64 0, .int .i64 0, .slice none 0 0] t)).frozen? ⟨w.heap.size + 1, 1, none⟩ = false ∧ ((w.alloc (.cells #[r, c, s] t)).alloc (.cells #[.int .i64 0, .int .i64 0, .slice none 0 0] t)).frozen? ⟨w.heap.size + 1, 2, none⟩ = false)) ∧
    Below w.heap.size w ((w.alloc (.cells #[r, c, s] t)).alloc (.cells #[.int .i64 0, .int .i64 0, .slice none 0 0] t)) ∧ ((w.alloc (.cells #[r, c, s] t)).alloc (.cells #[.int .i64 0, .int .i64 0, .slice none 0 0] t)).heap.size = w.heap.size + 2 := by
  have k := three_cells w r c s t
  have l := three_cells (w.alloc (.cells #[r, c, s] t)) (.int .i64 0) (.int .i64 0) (.slice none 0 0) t
  have hs : (w.alloc (.cells #[r, c, s] t)).heap.size = w.heap.size + 1 := by simp
  have hb := (Below.refl (w.alloc (.cells #[r, c, s] t)).heap.size (w.alloc (.cells #[r, c, s] t))).alloc (Nat.le_refl _) (.cells #[.int .i64 0, .int .i64 0, .slice none 0 0] t)
  rw [hs] at l
  refine ⟨⟨cell_stays hb (k 0 _ rfl).1, cell_stays hb (k 1 _ rfl).1, cell_stays hb (k 2 _ rfl).1⟩, ⟨(l 0 _ rfl).1, (l 1 _ rfl).1, (l 2 _ rfl).1⟩, ⟨(l 0 _ rfl).2, (l 1 _ rfl).2, (l 2 _ rfl).2⟩, ((Below.refl _ _).alloc (Nat.le_refl _) _).alloc (by simp) _, by simp⟩

theorem div_mod_at {j i R : Nat} (hi : i < R) : (j * R + i) % R = i ∧ (j * R + i) / R = j := by
  refine ⟨?_, ?_⟩
  · rw [Nat.add_comm, Nat.add_mul_mod_self_right]; exact Nat.mod_eq_of_lt hi
  · rw [Nat.add_comm, Nat.add_mul_div_right _ _ (by omega), Nat.div_eq_of_lt hi]; omega

def turnZ (z : Nat → Int) (R C i j : Nat) : Nat → Int := fun q => if q % R < i ∨ (q % R = i ∧ q / R < j) then z (q % R * C + q / R) else 0
theorem turn_put {z : Nat → Int} {R C i j : Nat} (hi : i < R) (q : Nat) : (if q = j * R + i then z (i * C + j) else turnZ z R C i j q) = turnZ z R C i (j + 1) q := by
  obtain ⟨h1, h2⟩ := div_mod_at (j := j) hi
  unfold turnZ
  by_cases e : q = j * R + i
  · subst e
    rw [if_pos rfl, if_pos (Or.inr ⟨h1, by omega⟩), h1, h2]
  · rw [if_neg e]
    have hne : ¬ (q % R = i ∧ q / R = j) := fun ⟨e1, e2⟩ => e (by
      have := Nat.div_add_mod q R
      rw [e1, e2, Nat.mul_comm] at this; exact this.symm)
    by_cases h : q % R < i ∨ (q % R = i ∧ q / R < j)
    · rw [if_pos h, if_pos (by omega)]
    · rw [if_neg h, if_neg (by omega)]
theorem turn_row {z : Nat → Int} {R C i : Nat} (q : Nat) (hq : q < C * R) : turnZ z R C i C q = turnZ z R C (i + 1) 0 q := by
  have h : q / R < C := Nat.div_lt_of_lt_mul (by rw [Nat.mul_comm]; exact hq)
  unfold turnZ
  generalize q / R = d at *
  generalize q % R = m at *
  by_cases h : m < i ∨ (m = i ∧ d < C)
  · rw [if_pos h, if_pos (by omega)]
  · rw [if_neg h, if_neg (by omega)]
theorem turn_end {z : Nat → Int} {R C : Nat} (q : Nat) (hq : q < C * R) : turnZ z R C R 0 q = z (q % R * C + q / R) := by
  have hR : 0 < R := by
    rcases Nat.eq_zero_or_pos R with e | e
    · subst e; omega
    · exact e
  unfold turnZ
  rw [if_pos (Or.inl (Nat.mod_lt _ hR))]
theorem turn_start {z : Nat → Int} {R C : Nat} (q : Nat) : (0 : Int) = turnZ z R C 0 0 q := by
  unfold turnZ
  generalize q / R = d at *
  generalize q % R = m at *
  rw [if_neg (by omega)]

theorem TuS.congr {w wr : World} {R C : Nat} {s : Value} {lb nb : Nat} {z z' : Nat → Int} (h : TuS w wr R C s lb nb z) (e : ∀ q, q < C * R → z q = z' q) : TuS w wr R C s lb nb z' := { h with zg := h.zg.congr e }

theorem TuS.done {w wr : World} {R C : Nat} {s : Value} {lb nb : Nat} {z : Nat → Int} (h : TuS w wr R C s lb nb z) {v0 v1 v2 : Value} :
    (((wr.setCell ⟨w.heap.size + 1, 0, none⟩ v0).setCell ⟨w.heap.size + 1, 1, none⟩ v1).setCell ⟨w.heap.size + 1, 2, none⟩ v2).cell? ⟨w.heap.size + 1, 0, none⟩ = some v0 ∧
    (((wr.setCell ⟨w.heap.size + 1, 0, none⟩ v0).setCell ⟨w.heap.size + 1, 1, none⟩ v1).setCell ⟨w.heap.size + 1, 2, none⟩ v2).cell? ⟨w.heap.size + 1, 1, none⟩ = some v1 ∧
    (((wr.setCell ⟨w.heap.size + 1, 0, none⟩ v0).setCell ⟨w.heap.size + 1, 1, none⟩ v1).setCell ⟨w.heap.size + 1, 2, none⟩ v2).cell? ⟨w.heap.size + 1, 2, none⟩ = some v2 ∧
    ZG 56 (((wr.setCell ⟨w.heap.size + 1, 0, none⟩ v0).setCell ⟨w.heap.size + 1, 1, none⟩ v1).setCell ⟨w.heap.size + 1, 2, none⟩ v2) w.heap.size nb lb (C * R) z ∧
    Below w.heap.size w (((wr.setCell ⟨w.heap.size + 1, 0, none⟩ v0).setCell ⟨w.heap.size + 1, 1, none⟩ v1).setCell ⟨w.heap.size + 1, 2, none⟩ v2) := by
  obtain ⟨y0, y1, y2⟩ := h.y
  have l1 := h.lo
  have l2 := h.zg.lt
  have ne : ∀ {i j : Nat}, i ≠ j → (⟨w.heap.size + 1, i, none⟩ : Addr) ≠ ⟨w.heap.size + 1, j, none⟩ := fun hij e => by injection e with _ e _; exact hij e
  refine ⟨?_, ?_, ?_, ?_, ?_⟩
  · rw [World.cell?_setCell_other _ _ _ _ (by intro e; injection e with _ e _; omega), World.cell?_setCell_other _ _ _ _ (by intro e; injection e with _ e _; omega)]; exact World.cell?_setCell_same _ _ _ y0
  · rw [World.cell?_setCell_other _ _ _ _ (by intro e; injection e with _ e _; omega)]
    refine World.cell?_setCell_same _ _ _ (u := .int .i64 0) ?_
    rw [World.cell?_setCell_other _ _ _ _ (by intro e; injection e with _ e _; omega)]; exact y1
  · refine World.cell?_setCell_same _ _ _ (u := .slice none 0 0) ?_
    rw [World.cell?_setCell_other _ _ _ _ (by intro e; injection e with _ e _; omega), World.cell?_setCell_other _ _ _ _ (by intro e; injection e with _ e _; omega)]; exact y2
  · exact ((h.zg.set (by show w.heap.size + 1 < nb; omega) (by show w.heap.size + 1 ≠ lb; omega) _).set (by show w.heap.size + 1 < nb; omega) (by show w.heap.size + 1 ≠ lb; omega) _).set (by show w.heap.size + 1 < nb; omega) (by show w.heap.size + 1 ≠ lb; omega) _
  · repeat (with_reducible refine Below.setCell ?_ (by show w.heap.size ≤ w.heap.size + 1; omega) _)
    exact h.bel

set_option maxHeartbeats 8000000 in
set_option maxRecDepth 100000 in
theorem Turn_any (R C : Nat) (hR : R ≤ 64) (hC : C ≤ 64) (s : Value) (z : Nat → Int) (S : Nat) (hS : S ≤ 274877906944) (w : World) (hr : RdN w s (R * C) z S) :
    Calls Try.prog 17 #[.agg #[.int .i64 R, .int .i64 C, s]] w fun e w' => ∃ lb bm, e = .returned (.tuple #[.agg #[.int .i64 C, .int .i64 R, .slice (some ⟨lb, 0, none⟩) (C * R) (C * R)], .int .i64 0]) ∧
      ZG 56 w' w.heap.size bm lb (C * R) (fun q => z (q % R * C + q / R)) ∧ Below w.heap.size w w' := by
  obtain ⟨a, cap, rfl, hn⟩ := hr.slice
  obtain ⟨N, hN⟩ : ∃ N, N = R * C := ⟨_, rfl⟩
  rw [← hN] at hr hn
  have hcheck := fun W => Check09_any R C a N cap hn W (by omega) (by omega) (by rw [hN]; simp)
  obtain ⟨⟨x0, x1, x2⟩, ⟨y0, y1, y2⟩, ⟨f0, f1, f2⟩, hb0, hs0⟩ := two_boxes w (.int .i64 R) (.int .i64 C) (.slice a N cap) 34
  have HR := Lib.hid hr
  have HC := Lib.hid hcheck
  have HN := Lib.hid hN
  have HB0 := Lib.hid hb0
  have HS0 := Lib.hid hs0
  rw [← hN]
  clear hr hcheck hN hb0 hs0
  go_enter Try.func17, Try.ntmps17
  go_wp2_with (first
    | (go_at_call 41; refine (HC.out _).mono ?_; rintro e w2 ⟨rfl, hb2⟩; have HB2 := Lib.hid (HB0.out.trans (hb2.mono HB0.out.size)); have HS2 := Lib.hid hb2.size; replace x0 := cell_stays hb2 x0; replace x1 := cell_stays hb2 x1; replace x2 := cell_stays hb2 x2; replace f0 := froz_stays hb2 y0 f0; replace f1 := froz_stays hb2 y1 f1; replace f2 := froz_stays hb2 y2 f2; replace y0 := cell_stays hb2 y0; replace y1 := cell_stays hb2 y1; replace y2 := cell_stays hb2 y2; clear hb2)
    | (go_at_call 39; refine (blank_any C R hC hR _).mono ?_; rintro e w3 ⟨lb, rfl, hz3, hb3⟩; have HB3 := Lib.hid (HB2.out.trans (hb3.mono HB2.out.size)); have HZ3 := Lib.hid hz3; replace x0 := cell_stays hb3 x0; replace x1 := cell_stays hb3 x1; replace x2 := cell_stays hb3 x2; replace f0 := froz_stays hb3 y0 f0; replace f1 := froz_stays hb3 y1 f1; replace f2 := froz_stays hb3 y2 f2; replace y0 := cell_stays hb3 y0; replace y1 := cell_stays hb3 y1; replace y2 := cell_stays hb3 y2; clear hb3 hz3))
  have hbox := (Below.refl w3.heap.size w3).alloc (Nat.le_refl _) (.cells #[.int .i64 C, .int .i64 R, .slice (some ⟨lb, 0, none⟩) (C * R) (C * R)] 34)
  have hm := three_cells w3 (.int .i64 C) (.int .i64 R) (.slice (some ⟨lb, 0, none⟩) (C * R) (C * R)) 34
  have h0 : TuS w (w3.alloc (.cells #[.int .i64 C, .int .i64 R, .slice (some ⟨lb, 0, none⟩) (C * R) (C * R)] 34)) R C (.slice a N cap) lb w3.heap.size (turnZ z R C 0 0) := by
    have h2 : w.heap.size + 2 ≤ w2.heap.size := by rw [← HS0.out]; exact HS2.out
    exact ⟨((HZ3.out.mono (by omega)).congr fun q _ => turn_start q).below hbox, HB3.out.alloc HB3.out.size _, Nat.le_trans h2 HZ3.out.own, by simp, ⟨cell_stays hbox x0, cell_stays hbox x1, cell_stays hbox x2⟩, ⟨cell_stays hbox y0, cell_stays hbox y1, cell_stays hbox y2⟩,
      ⟨froz_stays hbox y0 f0, froz_stays hbox y1 f1, froz_stays hbox y2 f2⟩, ⟨(hm 0 _ rfl).1, (hm 1 _ rfl).1, (hm 2 _ rfl).1⟩⟩
  have H0 := Lib.hid h0
  generalize w3.alloc (.cells #[.int .i64 C, .int .i64 R, .slice (some ⟨lb, 0, none⟩) (C * R) (C * R)] 34) = w4 at H0 ⊢
  generalize w3.heap.size = nb at H0 ⊢
  clear hbox hm h0 x0 x1 x2 y0 y1 y2 f0 f1 f2 HZ3 HB3 HB2 HS2
  go_loopw [6] (fun iv wr => ∃ i : Nat, i ≤ R ∧ iv = .int .i64 i ∧ TuS w wr R C (.slice a N cap) lb nb (turnZ z R C i 0)) (fun iv _ => R - (intOf iv).toNat)
  case atStart => exact ⟨0, by omega, rfl, H0.out⟩
  case round =>
    obtain ⟨i, i1, rfl, h⟩ := hrel
    obtain ⟨x0, x1, x2⟩ := h.x
    have H := Lib.hid h
    clear h
    by_cases hi : i < R
    · go_wp2_with fail
      go_loopw [7] (fun jv wr => ∃ j : Nat, j ≤ C ∧ jv = .int .i64 j ∧ TuS w wr R C (.slice a N cap) lb nb (turnZ z R C i j)) (fun jv _ => C - (intOf jv).toNat)
      case atStart => exact ⟨0, by omega, rfl, H.out⟩
      case round =>
        clear H x0 x1 x2
        obtain ⟨j, j1, rfl, h⟩ := hrel
        by_cases hj : j < C
        · obtain ⟨q, hq⟩ : ∃ q, q = i * C + j := ⟨_, rfl⟩
          obtain ⟨k, hk⟩ : ∃ k, k = j * R + i := ⟨_, rfl⟩
          have hqN : q < N := by
            rw [hq, HN.out]
            have := Nat.mul_le_mul_right C (show i + 1 ≤ R by omega)
            rw [Nat.add_mul, Nat.one_mul] at this; omega
          have hkN : k < C * R := by
            rw [hk]
            have := Nat.mul_le_mul_right R (show j + 1 ≤ C by omega)
            rw [Nat.add_mul, Nat.one_mul] at this; omega
          have hCR : C * R ≤ 4096 := Nat.mul_le_mul hC hR
          obtain ⟨e3, e4⟩ := prod64 (r := i) (c := C) (by omega) (by omega)
          obtain ⟨e5, e6⟩ := prod64 (r := j) (c := R) (by omega) (by omega)
          have e2 : (i : Int) * C + j = q := by rw [hq]; simp
          have e7 : (j : Int) * R + i = k := by rw [hk]; simp
          obtain ⟨b, o, g, ad, nd, cd, rfl, hcw, hcw1, hcw3, -⟩ := HR.out.at hS hqN
          have d1 := cell_stays h.bel hcw
          have d2 := cell_stays h.bel hcw1
          have d3 := hcw3.below h.bel
          obtain ⟨p0, p1, p2⟩ := h.x
          obtain ⟨n0, n1, n2⟩ := h.m
          obtain ⟨t0, t1, t2, c1, c2, c3⟩ := h.zg.cells k hkN
          have k1 := h.zg.froz (i := k * 2) (by omega)
          have k2 := h.zg.froz (i := k * 2 + 1) (by omega)
          have f1 := World.block_lt_of_cell? wr _ d1
          have f2 := World.block_lt_of_cell? wr _ p0
          have f3 := h.lt
          have f4 := h.zg.lt
          have cm : ∀ W, Below wr.heap.size wr W → Calls Try.prog 42 #[.agg #[.bool g, .slice ad nd cd]] W fun e w' => ∃ av nv cv, e = .returned (.agg #[.bool (decide (z q < 0)), .slice av nv cv]) ∧
              FrZ w' nb (.agg #[.bool (decide (z q < 0)), .slice av nv cv]) (z q) ∧ TuS w w' R C (.slice (some ⟨b, o, none⟩) N cap) lb nb (turnZ z R C i j) ∧ Below wr.heap.size wr w' := fun W hW => by
            refine (Least05_any _ _ W (d3.below hW)).mono ?_
            rintro e w' ⟨v, rfl, hz, h3⟩
            have hsz := hW.size
            have hlt := h.lt
            obtain ⟨m', n', f', rfl, g1, g2⟩ := hz
            obtain ⟨a', c', rfl⟩ := g1.slice
            exact ⟨a', n', c', rfl, ⟨_, n', f', rfl, g1.mono (by omega), g2⟩, h.below (hW.trans (h3.mono hW.size)), hW.trans (h3.mono hW.size)⟩
          have CM := Lib.hid cm
          have g0 : (0 : Int) ≤ (q : Int) := by omega
          have g1 : (q : Int) < (N : Int) := by omega
          have g2 : IntKind.i64.wrap ((i : Int) * C) = (i : Int) * C := IntWalk.i64_in _ (by omega)
          have g3 : IntKind.i64.wrap ((q : Nat) : Int) = q := IntWalk.i64_in _ (by omega)
          have g4 : IntKind.i64.wrap ((i : Int) * C + j) = q := by rw [e2]; exact g3
          have g5 : (0 : Int) ≤ (k : Int) := by omega
          have g6 : (k : Int) < ((C * R : Nat) : Int) := by omega
          have g6' : (k : Int) < (C : Int) * (R : Int) := by have := g6; push_cast at this; exact this
          have g7 : IntKind.i64.wrap ((j : Int) * R) = (j : Int) * R := IntWalk.i64_in _ (by omega)
          have g8 : IntKind.i64.wrap ((k : Nat) : Int) = k := IntWalk.i64_in _ (by omega)
          have g9 : IntKind.i64.wrap ((j : Int) * R + i) = k := by rw [e7]; exact g8
          have HQ := Lib.hid hq
          have HK := Lib.hid hk
          clear cm hq hk d3 c3
          have l0 := h.lo
          have l1 : b ≠ lb := by have := World.block_lt_of_cell? w _ hcw; dsimp only at this; omega
          have l2 : nb ≠ lb := by have := h.zg.lt; omega
          have l3 : w.heap.size ≠ lb := by omega
          clear h
          go_wp2_with fail
          go_region_held3 (fun w' => w'.cell? ⟨nb, 2, none⟩ = some (.slice (some ⟨lb, 0, none⟩) (C * R) (C * R)) ∧ w'.cell? ⟨w.heap.size, 0, none⟩ = some (.int .i64 R) ∧ w'.cell? ⟨w.heap.size, 1, none⟩ = some (.int .i64 C) ∧ w'.cell? ⟨w.heap.size, 2, none⟩ = some (.slice (some ⟨b, o, none⟩) N cap) ∧
              w'.cell? ⟨b, o + q * 2, none⟩ = some (.bool g) ∧ w'.cell? ⟨b, o + q * 2 + 1, none⟩ = some (.slice ad nd cd))
            (first
              | go_keep
              | (exact ⟨cell_stays hb6 n2, cell_stays hb6 p0, cell_stays hb6 p1, cell_stays hb6 p2, cell_stays hb6 d1, cell_stays hb6 d2⟩)
              | (have hk := gb_trans (gb_set w6 ⟨lb, k * 2, none⟩ (.bool (decide (z q < 0)))) (gb_set _ ⟨lb, k * 2 + 1, none⟩ (.slice av nv cv)); exact ⟨hk.cell (cell_stays hb6 n2) (fun e => l2 (Option.some.inj e)), hk.cell (cell_stays hb6 p0) (fun e => l3 (Option.some.inj e)), hk.cell (cell_stays hb6 p1) (fun e => l3 (Option.some.inj e)), hk.cell (cell_stays hb6 p2) (fun e => l3 (Option.some.inj e)), hk.cell (cell_stays hb6 d1) (fun e => l1 (Option.some.inj e)), hk.cell (cell_stays hb6 d2) (fun e => l1 (Option.some.inj e))⟩))
            (first
              | (go_at_call 42; (with_reducible refine (CM.out wr.drew ((Below.refl _ _).drew)).mono ?_); rintro e w6 ⟨av, nv, cv, rfl, hz6, h6, hb6⟩; have H6 := Lib.hid h6; obtain ⟨s0, s1, s2, v1, v2, -⟩ := h6.zg.cells k hkN; have v3 := h6.zg.froz (i := k * 2) (by omega); have v4 := h6.zg.froz (i := k * 2 + 1) (by omega); clear h6))
          all_goals
            have R1 := Lib.hid (H6.out.put (k := k) hkN hz6 (Nat.le_refl _) (z' := turnZ z R C i (j + 1)) (fun q' _ => by rw [HK.out, HQ.out]; exact turn_put hi q'))
            go_wp2_with fail
            go_roundw
            case rel => exact ⟨j + 1, by omega, by go_num, R1.out⟩
            case measure => simp [intOf]; omega
        · obtain rfl : j = C := by omega
          obtain ⟨p0, p1, p2⟩ := h.x
          have H := Lib.hid h
          clear h
          go_wp2_with fail
          go_roundw
          case rel => exact ⟨i + 1, by omega, by go_num, H.out.congr fun q hq => turn_row q hq⟩
          case measure => simp [intOf]; omega
    · obtain rfl : i = R := by omega
      obtain ⟨y0, y1, y2⟩ := H.out.y
      obtain ⟨n0, n1, n2⟩ := H.out.m
      obtain ⟨f0, f1, f2⟩ := H.out.f
      go_wp2_with fail
      obtain ⟨r0, r1, r2, r3, r4⟩ := H.out.done
      refine bodyPost_ret (v := .tuple #[.agg #[.int .i64 C, .int .i64 i, .slice (some ⟨lb, 0, none⟩) (C * i) (C * i)], .int .i64 0]) ?_ rfl ⟨lb, nb, rfl, r3.congr fun q hq => turn_end q hq, r4⟩
      simp [results, Try.results17, go_sem, r0, r1, r2]
end Go.Proofs.Ytdlpemmoobbgnaa

namespace Go.Proofs.Ytdlpemmoobbgnaa
open Go.RowKit

/-- f 0 * g 0 + .. + f (m - 1) * g (m - 1) -/
def dotZ (f g : Nat → Int) : Nat → Int
  | 0 => 0
  | m + 1 => f m * g m + dotZ f g m
theorem dotZ_bd {f g : Nat → Int} {X : Int} (hX : 0 ≤ X) : ∀ {m : Nat}, (∀ k, k < m → ((f k * g k).natAbs : Int) < X) → ((dotZ f g m).natAbs : Int) ≤ m * X
  | 0, _ => by simp [dotZ]
  | m + 1, h => by
    have h1 := dotZ_bd hX (m := m) (fun k hk => h k (by omega))
    have h2 := h m (by omega)
    have h3 : ((m + 1 : Nat) : Int) * X = m * X + X := by push_cast; rw [Int.add_mul, Int.one_mul]
    rw [h3]
    show ((f m * g m + dotZ f g m).natAbs : Int) ≤ _
    omega
theorem dotZ_zb {f g : Nat → Int} {S T m : Nat} (hm : m ≤ 64) (hf : ∀ k, k < m → ZB S (f k)) (hg : ∀ k, k < m → ZB T (g k)) : ZB (S + T + 1) (dotZ f g m) := by
  have h0 : (0 : Int) < 18446744073709551616 ^ (S + T) := Int.pow_pos (by omega)
  have h1 := dotZ_bd (f := f) (g := g) (X := 18446744073709551616 ^ (S + T)) (by omega) (m := m) (fun k hk => (hf k hk).mul (hg k hk))
  unfold ZB
  rw [Int.pow_succ]
  have h2 : (m : Int) * 18446744073709551616 ^ (S + T) ≤ 64 * 18446744073709551616 ^ (S + T) := Int.mul_le_mul_of_nonneg_right (by omega) (by omega)
  rw [Int.mul_comm (18446744073709551616 ^ (S + T))]
  generalize (18446744073709551616 : Int) ^ (S + T) = X at *
  omega
theorem dotZ_congr {f g f' g' : Nat → Int} : ∀ {m : Nat}, (∀ k, k < m → f k = f' k ∧ g k = g' k) → dotZ f g m = dotZ f' g' m
  | 0, _ => rfl
  | m + 1, h => by
    show f m * g m + dotZ f g m = f' m * g' m + dotZ f' g' m
    rw [dotZ_congr (m := m) (fun k hk => h k (by omega)), (h m (by omega)).1, (h m (by omega)).2]

/-- what a walk that fills a matrix keeps: cells L of its boxes, the result's box rb, the matrix's box nb, the entries in lb -/
structure GS (w wr : World) (L : List (Addr × Value)) (rb R C lb nb : Nat) (z : Nat → Int) : Prop where
  zg : ZG 56 wr w.heap.size nb lb (R * C) z
  bel : Below w.heap.size w wr
  lo : rb < lb
  le : w.heap.size ≤ rb
  lt : nb < wr.heap.size
  kept : ∀ p ∈ L, p.1.block < lb ∧ wr.cell? p.1 = some p.2
  y : wr.cell? ⟨rb, 0, none⟩ = some (.int .i64 0) ∧ wr.cell? ⟨rb, 1, none⟩ = some (.int .i64 0) ∧ wr.cell? ⟨rb, 2, none⟩ = some (.slice none 0 0)
  f : wr.frozen? ⟨rb, 0, none⟩ = false ∧ wr.frozen? ⟨rb, 1, none⟩ = false ∧ wr.frozen? ⟨rb, 2, none⟩ = false
  m : wr.cell? ⟨nb, 0, none⟩ = some (.int .i64 R) ∧ wr.cell? ⟨nb, 1, none⟩ = some (.int .i64 C) ∧ wr.cell? ⟨nb, 2, none⟩ = some (.slice (some ⟨lb, 0, none⟩) (R * C) (R * C))

section
variable {w wr w' : World} {L : List (Addr × Value)} {rb R C lb nb : Nat} {z z' : Nat → Int}
theorem GS.congr (h : GS w wr L rb R C lb nb z) (e : ∀ q, q < R * C → z q = z' q) : GS w wr L rb R C lb nb z' := { h with zg := h.zg.congr e }
theorem GS.below (h : GS w wr L rb R C lb nb z) (hb : Below wr.heap.size wr w') : GS w w' L rb R C lb nb z :=
  ⟨h.zg.below hb, h.bel.trans (hb.mono h.bel.size), h.lo, h.le, Nat.lt_of_lt_of_le h.lt hb.size, fun p hp => ⟨(h.kept p hp).1, cell_stays hb (h.kept p hp).2⟩,
    ⟨cell_stays hb h.y.1, cell_stays hb h.y.2.1, cell_stays hb h.y.2.2⟩, ⟨froz_stays hb h.y.1 h.f.1, froz_stays hb h.y.2.1 h.f.2.1, froz_stays hb h.y.2.2 h.f.2.2⟩,
    ⟨cell_stays hb h.m.1, cell_stays hb h.m.2.1, cell_stays hb h.m.2.2⟩⟩
/-- one entry written -/
theorem GS.put (h : GS w wr L rb R C lb nb z) {k : Nat} (hk : k < R * C) {y : Int} {base : Nat} {a : Option Addr} {m c : Nat} (hz : FrZ wr base (.agg #[.bool (decide (y < 0)), .slice a m c]) y) (hbase : nb ≤ base)
    (hz' : ∀ q, q < R * C → (if q = k then y else z q) = z' q) : GS w ((wr.setCell ⟨lb, k * 2, none⟩ (.bool (decide (y < 0)))).setCell ⟨lb, k * 2 + 1, none⟩ (.slice a m c)) L rb R C lb nb z' := by
  have hg : wr.grownBy ((wr.setCell ⟨lb, k * 2, none⟩ (.bool (decide (y < 0)))).setCell ⟨lb, k * 2 + 1, none⟩ (.slice a m c)) (some lb) := gb_trans (gb_set _ _ _) (gb_set _ _ _)
  have l1 := h.lo
  have l2 := h.zg.lt
  have l3 := h.le
  have hc : ∀ {b : Addr} {v : Value}, b.block ≠ lb → wr.cell? b = some v → ((wr.setCell ⟨lb, k * 2, none⟩ (.bool (decide (y < 0)))).setCell ⟨lb, k * 2 + 1, none⟩ (.slice a m c)).cell? b = some v := fun hb hv => hg.cell hv (by intro e; injection e with e; exact hb e)
  have hf : ∀ b : Addr, ((wr.setCell ⟨lb, k * 2, none⟩ (.bool (decide (y < 0)))).setCell ⟨lb, k * 2 + 1, none⟩ (.slice a m c)).frozen? b = wr.frozen? b := fun b => by rw [World.frozen?_setCell, World.frozen?_setCell]
  have n1 : rb ≠ lb := by omega
  have n2 : nb ≠ lb := by omega
  refine ⟨(h.zg.put hk (hz.mono hbase)).congr hz', (h.bel.setCell (by show w.heap.size ≤ lb; omega) _).setCell (by show w.heap.size ≤ lb; omega) _, h.lo, h.le, Nat.lt_of_lt_of_le h.lt hg.size, fun p hp => ⟨(h.kept p hp).1, hc (by have := (h.kept p hp).1; omega) (h.kept p hp).2⟩, ⟨hc n1 h.y.1, hc n1 h.y.2.1, hc n1 h.y.2.2⟩, ⟨?_, ?_, ?_⟩, ⟨hc n2 h.m.1, hc n2 h.m.2.1, hc n2 h.m.2.2⟩⟩
  · rw [hf]; exact h.f.1
  · rw [hf]; exact h.f.2.1
  · rw [hf]; exact h.f.2.2
theorem GS.done (h : GS w wr L rb R C lb nb z) {v0 v1 v2 : Value} :
    (((wr.setCell ⟨rb, 0, none⟩ v0).setCell ⟨rb, 1, none⟩ v1).setCell ⟨rb, 2, none⟩ v2).cell? ⟨rb, 0, none⟩ = some v0 ∧
    (((wr.setCell ⟨rb, 0, none⟩ v0).setCell ⟨rb, 1, none⟩ v1).setCell ⟨rb, 2, none⟩ v2).cell? ⟨rb, 1, none⟩ = some v1 ∧
    (((wr.setCell ⟨rb, 0, none⟩ v0).setCell ⟨rb, 1, none⟩ v1).setCell ⟨rb, 2, none⟩ v2).cell? ⟨rb, 2, none⟩ = some v2 ∧
    ZG 56 (((wr.setCell ⟨rb, 0, none⟩ v0).setCell ⟨rb, 1, none⟩ v1).setCell ⟨rb, 2, none⟩ v2) w.heap.size nb lb (R * C) z ∧
    Below w.heap.size w (((wr.setCell ⟨rb, 0, none⟩ v0).setCell ⟨rb, 1, none⟩ v1).setCell ⟨rb, 2, none⟩ v2) := by
  obtain ⟨y0, y1, y2⟩ := h.y
  have l1 := h.lo
  have l2 := h.zg.lt
  have l3 := h.le
  refine ⟨?_, ?_, ?_, ?_, ?_⟩
  · rw [World.cell?_setCell_other _ _ _ _ (by intro e; injection e with _ e _; omega), World.cell?_setCell_other _ _ _ _ (by intro e; injection e with _ e _; omega)]; exact World.cell?_setCell_same _ _ _ y0
  · rw [World.cell?_setCell_other _ _ _ _ (by intro e; injection e with _ e _; omega)]
    refine World.cell?_setCell_same _ _ _ (u := .int .i64 0) ?_
    rw [World.cell?_setCell_other _ _ _ _ (by intro e; injection e with _ e _; omega)]; exact y1
  · refine World.cell?_setCell_same _ _ _ (u := .slice none 0 0) ?_
    rw [World.cell?_setCell_other _ _ _ _ (by intro e; injection e with _ e _; omega), World.cell?_setCell_other _ _ _ _ (by intro e; injection e with _ e _; omega)]; exact y2
  · exact ((h.zg.set (by show rb < nb; omega) (by show rb ≠ lb; omega) _).set (by show rb < nb; omega) (by show rb ≠ lb; omega) _).set (by show rb < nb; omega) (by show rb ≠ lb; omega) _
  · repeat (with_reducible refine Below.setCell ?_ (by show w.heap.size ≤ rb; omega) _)
    exact h.bel
end

set_option maxHeartbeats 400000 in
theorem both_any (r c r' c' : Int) (a a' : Option Addr) (n cap n' cap' : Nat) (hn : n ≤ 17592186044416) (hn' : n' ≤ 17592186044416) (w : World) (hr : 0 ≤ r ∧ r ≤ 64) (hc : 0 ≤ c ∧ c ≤ 64) (he : (n : Int) = r * c) (hr' : 0 ≤ r' ∧ r' ≤ 64) (hc' : 0 ≤ c' ∧ c' ≤ 64) (he' : (n' : Int) = r' * c') :
    Calls Try.prog 38 #[.agg #[.int .i64 r, .int .i64 c, .slice a n cap], .agg #[.int .i64 r', .int .i64 c', .slice a' n' cap']] w fun e w' => e = .returned (.int .i64 0) ∧ Below w.heap.size w w' := by
  have h1 := fun W => Check09_any r c a n cap hn W hr hc he
  have h2 := fun W => Check09_any r' c' a' n' cap' hn' W hr' hc' he'
  have H1 := Lib.hid h1
  have H2 := Lib.hid h2
  have k := three_cells w (.int .i64 r) (.int .i64 c) (.slice a n cap) 34
  have l := three_cells (w.alloc (.cells #[.int .i64 r, .int .i64 c, .slice a n cap] 34)) (.int .i64 r') (.int .i64 c') (.slice a' n' cap') 34
  rw [show (w.alloc (.cells #[.int .i64 r, .int .i64 c, .slice a n cap] 34)).heap.size = w.heap.size + 1 by simp] at l
  have hb := (Below.refl (w.alloc (.cells #[.int .i64 r, .int .i64 c, .slice a n cap] 34)).heap.size (w.alloc (.cells #[.int .i64 r, .int .i64 c, .slice a n cap] 34))).alloc (Nat.le_refl _) (.cells #[.int .i64 r', .int .i64 c', .slice a' n' cap'] 34)
  have x0 := cell_stays hb (k 0 _ rfl).1
  have x1 := cell_stays hb (k 1 _ rfl).1
  have x2 := cell_stays hb (k 2 _ rfl).1
  have y0 := (l 0 _ rfl).1
  have y1 := (l 1 _ rfl).1
  have y2 := (l 2 _ rfl).1
  have hb0 : Below w.heap.size w ((w.alloc (.cells #[.int .i64 r, .int .i64 c, .slice a n cap] 34)).alloc (.cells #[.int .i64 r', .int .i64 c', .slice a' n' cap'] 34)) := ((Below.refl _ _).alloc (Nat.le_refl _) _).alloc (by simp) _
  have HB0 := Lib.hid hb0
  clear h1 h2 k l hb hb0 hr hc he hr' hc' he'
  go_enter Try.func38, Try.ntmps38
  go_wp2_with (first
    | (go_at_call_of 41 (Value.agg #[.int .i64 r, .int .i64 c, .slice a n cap]); refine (H1.out _).mono ?_; rintro e w2 ⟨rfl, hb2⟩; have HB2 := Lib.hid (HB0.out.trans (hb2.mono HB0.out.size)); have y0 := cell_stays hb2 y0; have y1 := cell_stays hb2 y1; have y2 := cell_stays hb2 y2; clear hb2)
    | (go_at_call 41; refine (H2.out _).mono ?_; rintro e w3 ⟨rfl, hb3⟩))
  go_ret
  exact ⟨rfl, HB2.out.trans (hb3.mono HB2.out.size)⟩
end Go.Proofs.Ytdlpemmoobbgnaa

namespace Go.Proofs.Ytdlpemmoobbgnaa
open Go.RowKit

/-- an integer in a box of the call's own -/
def Acc (w : World) (sb : Nat) (v : Int) : Prop := ∃ a m c, w.cell? ⟨sb, 0, none⟩ = some (.bool (decide (v < 0))) ∧ w.cell? ⟨sb, 1, none⟩ = some (.slice a m c) ∧ FrZ w (sb + 1) (.agg #[.bool (decide (v < 0)), .slice a m c]) v ∧ w.frozen? ⟨sb, 0, none⟩ = false ∧ w.frozen? ⟨sb, 1, none⟩ = false
theorem Acc.start (w : World) (t : TypeId) : Acc (w.alloc (.cells #[.bool false, .slice none 0 0] t)) w.heap.size 0 := by
  have k := cells2 w (.bool false) (.slice none 0 0) t
  exact ⟨none, 0, 0, (k 0 _ rfl).1, (k 1 _ rfl).1, frz_zero _ _, (k 0 _ rfl).2, (k 1 _ rfl).2⟩
theorem Acc.below {w w' : World} {sb : Nat} {v : Int} (h : Acc w sb v) (hb : Below w.heap.size w w') : Acc w' sb v := by
  obtain ⟨a, m, c, h1, h2, h3, h4, h5⟩ := h
  exact ⟨a, m, c, cell_stays hb h1, cell_stays hb h2, h3.below hb, froz_stays hb h1 h4, froz_stays hb h2 h5⟩
theorem Acc.store {w : World} {sb : Nat} {v y : Int} {base : Nat} {a : Option Addr} {m c : Nat} (h : Acc w sb v) (hz : FrZ w base (.agg #[.bool (decide (y < 0)), .slice a m c]) y) (hb : sb < base) :
    Acc ((w.setCell ⟨sb, 0, none⟩ (.bool (decide (y < 0)))).setCell ⟨sb, 1, none⟩ (.slice a m c)) sb y := by
  obtain ⟨a', m', c', h1, h2, -, h4, h5⟩ := h
  obtain ⟨g0, g1⟩ := stored2_own (.bool (decide (y < 0))) (.slice a m c) h1 h2
  refine ⟨a, m, c, g0, g1, (hz.stored' hb _ _).mono (by omega), ?_, ?_⟩
  · rw [World.frozen?_setCell, World.frozen?_setCell]; exact h4
  · rw [World.frozen?_setCell, World.frozen?_setCell]; exact h5

def six (n : Nat) (v0 v1 v2 v3 v4 v5 : Value) : List (Addr × Value) := [(⟨n, 0, none⟩, v0), (⟨n, 1, none⟩, v1), (⟨n, 2, none⟩, v2), (⟨n + 1, 0, none⟩, v3), (⟨n + 1, 1, none⟩, v4), (⟨n + 1, 2, none⟩, v5)]
theorem GS.six {w wr : World} {n rb R C lb nb : Nat} {z : Nat → Int} {v0 v1 v2 v3 v4 v5 : Value} (h : GS w wr (six n v0 v1 v2 v3 v4 v5) rb R C lb nb z) :
    wr.cell? ⟨n, 0, none⟩ = some v0 ∧ wr.cell? ⟨n, 1, none⟩ = some v1 ∧ wr.cell? ⟨n, 2, none⟩ = some v2 ∧ wr.cell? ⟨n + 1, 0, none⟩ = some v3 ∧ wr.cell? ⟨n + 1, 1, none⟩ = some v4 ∧ wr.cell? ⟨n + 1, 2, none⟩ = some v5 :=
  ⟨(h.kept (⟨n, 0, none⟩, v0) (by simp [Proofs.Ytdlpemmoobbgnaa.six])).2, (h.kept (⟨n, 1, none⟩, v1) (by simp [Proofs.Ytdlpemmoobbgnaa.six])).2, (h.kept (⟨n, 2, none⟩, v2) (by simp [Proofs.Ytdlpemmoobbgnaa.six])).2, (h.kept (⟨n + 1, 0, none⟩, v3) (by simp [Proofs.Ytdlpemmoobbgnaa.six])).2, (h.kept (⟨n + 1, 1, none⟩, v4) (by simp [Proofs.Ytdlpemmoobbgnaa.six])).2, (h.kept (⟨n + 1, 2, none⟩, v5) (by simp [Proofs.Ytdlpemmoobbgnaa.six])).2⟩
theorem six_all {n : Nat} {v0 v1 v2 v3 v4 v5 : Value} {wr : World} {lb : Nat} (hl : n + 1 < lb) (h0 : wr.cell? ⟨n, 0, none⟩ = some v0) (h1 : wr.cell? ⟨n, 1, none⟩ = some v1) (h2 : wr.cell? ⟨n, 2, none⟩ = some v2) (h3 : wr.cell? ⟨n + 1, 0, none⟩ = some v3) (h4 : wr.cell? ⟨n + 1, 1, none⟩ = some v4) (h5 : wr.cell? ⟨n + 1, 2, none⟩ = some v5) :
    ∀ p ∈ six n v0 v1 v2 v3 v4 v5, p.1.block < lb ∧ wr.cell? p.1 = some p.2 := by
  intro p hp
  simp only [Proofs.Ytdlpemmoobbgnaa.six, List.mem_cons, List.not_mem_nil, or_false] at hp
  rcases hp with rfl | rfl | rfl | rfl | rfl | rfl
  · exact ⟨by show n < lb; omega, h0⟩
  · exact ⟨by show n < lb; omega, h1⟩
  · exact ⟨by show n < lb; omega, h2⟩
  · exact ⟨hl, h3⟩
  · exact ⟨hl, h4⟩
  · exact ⟨hl, h5⟩

/-- the boxes of two matrices handed in and of the result -/
theorem three_boxes (w : World) (v0 v1 v2 v3 v4 v5 : Value) (t : TypeId) : ∃ W, W = ((w.alloc (.cells #[v0, v1, v2] t)).alloc (.cells #[v3, v4, v5] t)).alloc (.cells #[.int .i64 0, .int .i64 0, .slice none 0 0] t) ∧
    (W.cell? ⟨w.heap.size, 0, none⟩ = some v0 ∧ W.cell? ⟨w.heap.size, 1, none⟩ = some v1 ∧ W.cell? ⟨w.heap.size, 2, none⟩ = some v2) ∧
    (W.cell? ⟨w.heap.size + 1, 0, none⟩ = some v3 ∧ W.cell? ⟨w.heap.size + 1, 1, none⟩ = some v4 ∧ W.cell? ⟨w.heap.size + 1, 2, none⟩ = some v5) ∧
    (W.cell? ⟨w.heap.size + 2, 0, none⟩ = some (.int .i64 0) ∧ W.cell? ⟨w.heap.size + 2, 1, none⟩ = some (.int .i64 0) ∧ W.cell? ⟨w.heap.size + 2, 2, none⟩ = some (.slice none 0 0)) ∧
    (W.frozen? ⟨w.heap.size + 2, 0, none⟩ = false ∧ W.frozen? ⟨w.heap.size + 2, 1, none⟩ = false ∧ W.frozen? ⟨w.heap.size + 2, 2, none⟩ = false) ∧ Below w.heap.size w W ∧ W.heap.size = w.heap.size + 3 := by
  refine ⟨_, rfl, ?_⟩
  have k := three_cells w v0 v1 v2 t
  have l := three_cells (w.alloc (.cells #[v0, v1, v2] t)) v3 v4 v5 t
  have m := three_cells ((w.alloc (.cells #[v0, v1, v2] t)).alloc (.cells #[v3, v4, v5] t)) (.int .i64 0) (.int .i64 0) (.slice none 0 0) t
  have h1 : (w.alloc (.cells #[v0, v1, v2] t)).heap.size = w.heap.size + 1 := by simp
  have h2 : ((w.alloc (.cells #[v0, v1, v2] t)).alloc (.cells #[v3, v4, v5] t)).heap.size = w.heap.size + 2 := by simp
  have b2 := (Below.refl (w.alloc (.cells #[v0, v1, v2] t)).heap.size (w.alloc (.cells #[v0, v1, v2] t))).alloc (Nat.le_refl _) (.cells #[v3, v4, v5] t)
  have b3 := (Below.refl ((w.alloc (.cells #[v0, v1, v2] t)).alloc (.cells #[v3, v4, v5] t)).heap.size ((w.alloc (.cells #[v0, v1, v2] t)).alloc (.cells #[v3, v4, v5] t))).alloc (Nat.le_refl _) (.cells #[.int .i64 0, .int .i64 0, .slice none 0 0] t)
  rw [h1] at l
  rw [h2] at m
  refine ⟨⟨cell_stays b3 (cell_stays b2 (k 0 _ rfl).1), cell_stays b3 (cell_stays b2 (k 1 _ rfl).1), cell_stays b3 (cell_stays b2 (k 2 _ rfl).1)⟩, ⟨cell_stays b3 (l 0 _ rfl).1, cell_stays b3 (l 1 _ rfl).1, cell_stays b3 (l 2 _ rfl).1⟩,
    ⟨(m 0 _ rfl).1, (m 1 _ rfl).1, (m 2 _ rfl).1⟩, ⟨(m 0 _ rfl).2, (m 1 _ rfl).2, (m 2 _ rfl).2⟩, (((Below.refl _ _).alloc (Nat.le_refl _) _).alloc (by simp) _).alloc (by simp; omega) _, by simp⟩

def upZ (F : Nat → Int) (n : Nat) : Nat → Int := fun q => if q < n then F q else 0
theorem up_put {F : Nat → Int} {k : Nat} (q : Nat) : (if q = k then F k else upZ F k q) = upZ F (k + 1) q := by
  unfold upZ
  by_cases e : q = k
  · subst e; rw [if_pos rfl, if_pos (by omega)]
  · rw [if_neg e]
    by_cases h : q < k
    · rw [if_pos h, if_pos (by omega)]
    · rw [if_neg h, if_neg (by omega)]

theorem div_mod_lt {j i R : Nat} (hi : i < R) : (j * R + i) % R = i ∧ (j * R + i) / R = j := by
  refine ⟨?_, ?_⟩
  · rw [Nat.add_comm, Nat.add_mul_mod_self_right]; exact Nat.mod_eq_of_lt hi
  · rw [Nat.add_comm, Nat.add_mul_div_right _ _ (by omega), Nat.div_eq_of_lt hi]; omega

def mulF (z1 z2 : Nat → Int) (K C : Nat) : Nat → Int := fun q => dotZ (fun k => z1 (q / C * K + k)) (fun k => z2 (k * C + q % C)) K

theorem mulF_at {z1 z2 : Nat → Int} {K C i j : Nat} (hj : j < C) : dotZ (fun k => z1 (i * K + k)) (fun k => z2 (k * C + j)) K = mulF z1 z2 K C (i * C + j) := by
  obtain ⟨e1, e2⟩ := div_mod_lt (j := i) hj
  unfold mulF
  rw [e1, e2]

theorem prod_lt {i R C : Nat} (hi : i < R) {j : Nat} (hj : j < C) : i * C + j < R * C := by
  have := Nat.mul_le_mul_right C (show i + 1 ≤ R by omega)
  rw [Nat.add_mul, Nat.one_mul] at this; omega

set_option maxHeartbeats 4000000 in
set_option maxRecDepth 100000 in
theorem Mul_any (R K C : Nat) (hR : R ≤ 64) (hK : K ≤ 64) (hC : C ≤ 64) (s1 s2 : Value) (z1 z2 : Nat → Int) (S1 S2 : Nat) (hS : S1 + S2 + 1 ≤ 274877906944) (w : World) (h1 : RdN w s1 (R * K) z1 S1) (h2 : RdN w s2 (K * C) z2 S2) :
    Calls Try.prog 16 #[.agg #[.int .i64 R, .int .i64 K, s1], .agg #[.int .i64 K, .int .i64 C, s2]] w fun e w' => ∃ lb bm, e = .returned (.tuple #[.agg #[.int .i64 R, .int .i64 C, .slice (some ⟨lb, 0, none⟩) (R * C) (R * C)], .int .i64 0]) ∧
      ZG 56 w' w.heap.size bm lb (R * C) (mulF z1 z2 K C) ∧ Below w.heap.size w w' := by
  obtain ⟨a, cap, rfl, hn⟩ := h1.slice
  obtain ⟨b, cap', rfl, hn'⟩ := h2.slice
  obtain ⟨N, hN⟩ : ∃ N, N = R * K := ⟨_, rfl⟩
  obtain ⟨N', hN'⟩ : ∃ N', N' = K * C := ⟨_, rfl⟩
  rw [← hN] at h1 hn
  rw [← hN'] at h2 hn'
  have hboth := fun W => both_any R K K C a b N cap N' cap' hn hn' W (by omega) (by omega) (by rw [hN]; simp) (by omega) (by omega) (by rw [hN']; simp)
  obtain ⟨W0, hW0, ⟨x0, x1, x2⟩, ⟨x3, x4, x5⟩, ⟨y0, y1, y2⟩, ⟨f0, f1, f2⟩, hb0, hs0⟩ := three_boxes w (.int .i64 R) (.int .i64 K) (.slice a N cap) (.int .i64 K) (.int .i64 C) (.slice b N' cap') 34
  have HR1 := Lib.hid h1
  have HR2 := Lib.hid h2
  have HC := Lib.hid hboth
  have HN := Lib.hid hN
  have HN' := Lib.hid hN'
  have HB0 := Lib.hid hb0
  have HS0 := Lib.hid hs0
  rw [← hN, ← hN']
  clear h1 h2 hboth hN hN' hb0 hs0
  go_enter Try.func16, Try.ntmps16
  rw [hW0] at x0 x1 x2 x3 x4 x5 y0 y1 y2 f0 f1 f2 HB0 HS0
  clear hW0
  go_wp2_with (first
    | (go_at_call 38; refine (HC.out _).mono ?_; rintro e w2 ⟨rfl, hb2⟩; have HB2 := Lib.hid (HB0.out.trans (hb2.mono HB0.out.size)); have HS2 := Lib.hid hb2.size; replace x0 := cell_stays hb2 x0; replace x1 := cell_stays hb2 x1; replace x2 := cell_stays hb2 x2; replace x3 := cell_stays hb2 x3; replace x4 := cell_stays hb2 x4; replace x5 := cell_stays hb2 x5; replace f0 := froz_stays hb2 y0 f0; replace f1 := froz_stays hb2 y1 f1; replace f2 := froz_stays hb2 y2 f2; replace y0 := cell_stays hb2 y0; replace y1 := cell_stays hb2 y1; replace y2 := cell_stays hb2 y2; clear hb2)
    | (go_at_call 39; refine (blank_any R C hR hC _).mono ?_; rintro e w3 ⟨lb, rfl, hz3, hb3⟩; have HB3 := Lib.hid (HB2.out.trans (hb3.mono HB2.out.size)); have HZ3 := Lib.hid hz3; replace x0 := cell_stays hb3 x0; replace x1 := cell_stays hb3 x1; replace x2 := cell_stays hb3 x2; replace x3 := cell_stays hb3 x3; replace x4 := cell_stays hb3 x4; replace x5 := cell_stays hb3 x5; replace f0 := froz_stays hb3 y0 f0; replace f1 := froz_stays hb3 y1 f1; replace f2 := froz_stays hb3 y2 f2; replace y0 := cell_stays hb3 y0; replace y1 := cell_stays hb3 y1; replace y2 := cell_stays hb3 y2; clear hb3 hz3))
  obtain ⟨F, hF⟩ : ∃ F, F = mulF z1 z2 K C := ⟨_, rfl⟩
  have HFE := Lib.hid hF
  clear hF
  have hbox := (Below.refl w3.heap.size w3).alloc (Nat.le_refl _) (.cells #[.int .i64 R, .int .i64 C, .slice (some ⟨lb, 0, none⟩) (R * C) (R * C)] 34)
  have hm := three_cells w3 (.int .i64 R) (.int .i64 C) (.slice (some ⟨lb, 0, none⟩) (R * C) (R * C)) 34
  have h0 : GS w (w3.alloc (.cells #[.int .i64 R, .int .i64 C, .slice (some ⟨lb, 0, none⟩) (R * C) (R * C)] 34)) (six w.heap.size (.int .i64 R) (.int .i64 K) (.slice a N cap) (.int .i64 K) (.int .i64 C) (.slice b N' cap')) (w.heap.size + 2) R C lb w3.heap.size (upZ F (0 * C)) := by
    have h2 : w.heap.size + 3 ≤ w2.heap.size := by rw [← HS0.out]; exact HS2.out
    have h3 := HZ3.out.own
    exact ⟨((HZ3.out.mono (by omega)).congr fun q _ => by unfold upZ; rw [Nat.zero_mul, if_neg (by omega)]).below hbox, HB3.out.alloc HB3.out.size _, by omega, by omega, by simp, six_all (by omega) (cell_stays hbox x0) (cell_stays hbox x1) (cell_stays hbox x2) (cell_stays hbox x3) (cell_stays hbox x4) (cell_stays hbox x5), ⟨cell_stays hbox y0, cell_stays hbox y1, cell_stays hbox y2⟩,
      ⟨froz_stays hbox y0 f0, froz_stays hbox y1 f1, froz_stays hbox y2 f2⟩, ⟨(hm 0 _ rfl).1, (hm 1 _ rfl).1, (hm 2 _ rfl).1⟩⟩
  have H0 := Lib.hid h0
  generalize w3.alloc (.cells #[.int .i64 R, .int .i64 C, .slice (some ⟨lb, 0, none⟩) (R * C) (R * C)] 34) = w4 at H0 ⊢
  generalize w3.heap.size = nb at H0 ⊢
  clear hbox hm h0 x0 x1 x2 x3 x4 x5 y0 y1 y2 f0 f1 f2 HZ3 HB3 HB2 HS2 HB0 HS0 HC
  go_loopw [8] (fun iv wr => ∃ i : Nat, i ≤ R ∧ iv = .int .i64 i ∧ GS w wr (six w.heap.size (.int .i64 R) (.int .i64 K) (.slice a N cap) (.int .i64 K) (.int .i64 C) (.slice b N' cap')) (w.heap.size + 2) R C lb nb (upZ F (i * C))) (fun iv _ => R - (intOf iv).toNat)
  case atStart => exact ⟨0, by omega, rfl, H0.out⟩
  case round =>
    clear H0
    obtain ⟨i, i1, rfl, h⟩ := hrel
    obtain ⟨x0, x1, x2, x3, x4, x5⟩ := h.six
    have H := Lib.hid h
    clear h
    by_cases hi : i < R
    · go_wp2_with fail
      go_loopw [9] (fun jv wr => ∃ j : Nat, j ≤ C ∧ jv = .int .i64 j ∧ GS w wr (six w.heap.size (.int .i64 R) (.int .i64 K) (.slice a N cap) (.int .i64 K) (.int .i64 C) (.slice b N' cap')) (w.heap.size + 2) R C lb nb (upZ F (i * C + j))) (fun jv _ => C - (intOf jv).toNat)
      case atStart => exact ⟨0, by omega, rfl, H.out⟩
      case round =>
        clear H x0 x1 x2 x3 x4 x5
        obtain ⟨j, j1, rfl, h⟩ := hrel
        obtain ⟨x0, x1, x2, x3, x4, x5⟩ := h.six
        have H := Lib.hid h
        clear h
        by_cases hj : j < C
        · have hbx := (Below.refl wr.heap.size wr).alloc (Nat.le_refl _) (.cells #[.bool false, .slice none 0 0] 56)
          have hacc := Acc.start wr 56
          have ha0 : GS w (wr.alloc (.cells #[.bool false, .slice none 0 0] 56)) (six w.heap.size (.int .i64 R) (.int .i64 K) (.slice a N cap) (.int .i64 K) (.int .i64 C) (.slice b N' cap')) (w.heap.size + 2) R C lb nb (upZ F (i * C + j)) := H.out.below hbx
          have HA := Lib.hid hacc
          have HBX := Lib.hid hbx
          obtain ⟨v0, v1, v2, v3, v4, v5⟩ := ha0.six
          clear hacc hbx ha0
          go_wp2_with fail
          generalize wr.alloc (.cells #[.bool false, .slice none 0 0] 56) = wj at *
          clear v0 v1 v2 v3 v4 v5 x0 x1 x2 x3 x4 x5
          go_loopw [11] (fun kv wq => ∃ k : Nat, k ≤ K ∧ kv = .int .i64 k ∧ Below wr.heap.size wr wq ∧ Acc wq wr.heap.size (dotZ (fun k => z1 (i * K + k)) (fun k => z2 (k * C + j)) k)) (fun kv _ => K - (intOf kv).toNat)
          case atStart => exact ⟨0, by omega, rfl, HBX.out, HA.out⟩
          case round =>
            obtain ⟨k, k1, rfl, hbq, hacc⟩ := hrel
            have h := H.out.below hbq
            obtain ⟨v0, v1, v2, v3, v4, v5⟩ := h.six
            have HG := Lib.hid h
            clear h
            by_cases hk : k < K
            · obtain ⟨q, hq⟩ : ∃ q, q = i * K + k := ⟨_, rfl⟩
              obtain ⟨q', hq'⟩ : ∃ q', q' = k * C + j := ⟨_, rfl⟩
              have hqN : q < N := by rw [hq, HN.out]; exact prod_lt hi hk
              have hqN' : q' < N' := by rw [hq', HN'.out]; exact prod_lt hk hj
              obtain ⟨e3, e4⟩ := prod64 (r := i) (c := K) (by omega) (by omega)
              obtain ⟨e5, e6⟩ := prod64 (r := k) (c := C) (by omega) (by omega)
              have e2 : (i : Int) * K + k = q := by rw [hq]; simp
              have e7 : (k : Int) * C + j = q' := by rw [hq']; simp
              have g2 : IntKind.i64.wrap ((i : Int) * K) = (i : Int) * K := IntWalk.i64_in _ (by omega)
              have g3 : IntKind.i64.wrap ((q : Nat) : Int) = q := IntWalk.i64_in _ (by omega)
              have g4 : IntKind.i64.wrap ((i : Int) * K + k) = q := by rw [e2]; exact g3
              have g7 : IntKind.i64.wrap ((k : Int) * C) = (k : Int) * C := IntWalk.i64_in _ (by omega)
              have g8 : IntKind.i64.wrap ((q' : Nat) : Int) = q' := IntWalk.i64_in _ (by omega)
              have g9 : IntKind.i64.wrap ((k : Int) * C + j) = q' := by rw [e7]; exact g8
              have g0 : (0 : Int) ≤ (q : Int) := by omega
              have g1 : (q : Int) < (N : Int) := by omega
              have g5 : (0 : Int) ≤ (q' : Int) := by omega
              have g6 : (q' : Int) < (N' : Int) := by omega
              obtain ⟨b1, o1, s1, am, nm, cm, ea, c1, c2, c3, c4⟩ := (HR1.out.below HG.out.bel).at (by omega) hqN
              obtain ⟨b2, o2, s2, al, nl, cl, eb, d1, d2, d3, d4⟩ := (HR2.out.below HG.out.bel).at (by omega) hqN'
              rw [ea] at v2
              rw [eb] at v5
              obtain ⟨aa, an, ac, a0, a1, a2, a3, a4⟩ := hacc
              have HC3 := Lib.hid c3
              have HC4 := Lib.hid c4
              have HD3 := Lib.hid d3
              have HD4 := Lib.hid d4
              have HA2 := Lib.hid a2
              have HQ := Lib.hid hq
              have HQ' := Lib.hid hq'
              clear ea eb c3 c4 d3 d4 a2 hq hq' e2 e7
              go_wp2_with fail
              refine wp_region_still_tail 21 (by kernel_rfl) (by kernel_rfl) ?_
              simp only [List.take_succ_cons, List.take_zero, List.drop_succ_cons, List.drop_zero]
              repeat still_step
              refine wpStill_nil ?_
              have hdw : Below wr.heap.size wr wr.drew := (Below.refl _ _).drew
              have hz1 := HC3.out.below hdw
              have hz2 := HD3.out.below hdw
              have hz3 := (HA2.out.below hdw).rd (S := S1 + S2 + 1) (dotZ_zb (by omega) (fun c hc => ((HR1.out.below HG.out.bel).at (by omega) (k := i * K + c) (by rw [HN.out]; exact prod_lt hi (by omega))).choose_spec.choose_spec.choose_spec.choose_spec.choose_spec.choose_spec.2.2.2.2) (fun c hc => ((HR2.out.below HG.out.bel).at (by omega) (k := c * C + j) (by rw [HN'.out]; exact prod_lt (by omega) hj)).choose_spec.choose_spec.choose_spec.choose_spec.choose_spec.choose_spec.2.2.2.2)) (by omega)
              have hma := MulAdd05_any _ _ _ _ _ _ (S1 + S2) (by omega) (HC4.out.mul HD4.out) _ hz1 hz2 hz3
              have HMA := Lib.hid hma
              clear hma hz1 hz2 hz3
              change wpList _ _ _ _ _ wr.drew
              go_wp2_with (go_at_call 40; (with_reducible refine HMA.out.mono ?_); rintro e w6 ⟨v, rfl, ⟨m6, n6, f6, rfl, p6, q6⟩, hb6⟩; obtain ⟨a6, c6, rfl⟩ := p6.slice; have hb7 := hdw.trans (hb6.mono hdw.size); have w0 := cell_stays hb7 a0; have w1 := cell_stays hb7 a1; have w3 := froz_stays hb7 a0 a3; have w4 := froz_stays hb7 a1 a4)
              have hsz := hb7.size
              have hbs := hbq.size
              have hlt := World.block_lt_of_cell? wr _ a0
              have hacc6 : Acc w6 _ _ := ⟨aa, an, ac, w0, w1, HA2.out.below hb7, w3, w4⟩
              have hst := hacc6.store (y := dotZ (fun k => z1 (i * K + k)) (fun k => z2 (k * C + j)) (k + 1)) (base := wr.drew.heap.size) (by have := HQ.out; have := HQ'.out; subst q; subst q'; exact ⟨_, n6, f6, rfl, p6, q6⟩) hlt
              have hbl := hbq.trans (hb7.mono hbq.size)
              have HST := Lib.hid hst
              have HBL := Lib.hid hbl
              clear hst hbl hacc6
              have R2 := Lib.hid ((HBL.out.setCell (p := ⟨_, 0, none⟩) (Nat.le_refl _) (.bool (decide (z1 q * z2 q' + dotZ (fun k => z1 (i * K + k)) (fun k => z2 (k * C + j)) k < 0)))).setCell (p := ⟨_, 1, none⟩) (Nat.le_refl _) (.slice a6 n6 c6))
              go_wp2_with fail
              go_roundw
              case rel =>
                have h3 := HST.out
                have h4 := R2.out
                have hqe := HQ.out
                have hqe' := HQ'.out
                subst q; subst q'
                exact ⟨k + 1, by omega, by go_num, h4, h3⟩
              case measure => simp [intOf]; omega
            · obtain rfl : k = K := by omega
              obtain ⟨t, ht⟩ : ∃ t, t = i * C + j := ⟨_, rfl⟩
              have htN : t < R * C := by rw [ht]; exact prod_lt hi hj
              have hRC : R * C ≤ 4096 := Nat.mul_le_mul hR hC
              obtain ⟨e3, e4⟩ := prod64 (r := i) (c := C) (by omega) (by omega)
              have e2 : (i : Int) * C + j = t := by rw [ht]; simp
              have g2 : IntKind.i64.wrap ((i : Int) * C) = (i : Int) * C := IntWalk.i64_in _ (by omega)
              have g3 : IntKind.i64.wrap ((t : Nat) : Int) = t := IntWalk.i64_in _ (by omega)
              have g4 : IntKind.i64.wrap ((i : Int) * C + j) = t := by rw [e2]; exact g3
              have g5 : (0 : Int) ≤ (t : Int) := by omega
              have g6 : (t : Int) < ((R * C : Nat) : Int) := by omega
              obtain ⟨n0, n1, n2⟩ := HG.out.m
              obtain ⟨c0, c1, c2, m0, m1, -⟩ := HG.out.zg.cells t htN
              have m3 := HG.out.zg.froz (i := t * 2) (by omega)
              have m4 := HG.out.zg.froz (i := t * 2 + 1) (by omega)
              have hv : dotZ (fun c => z1 (i * k + c)) (fun c => z2 (c * C + j)) k = F t := by rw [HFE.out, ht]; exact mulF_at hj
              rw [hv] at hacc
              obtain ⟨aa, am, ac, a0, a1, a2, a3, a4⟩ := hacc
              have HT := Lib.hid ht
              have HA2 := Lib.hid a2
              clear ht hv a2 e2
              go_wp2_with fail
              have hlt := HG.out.lt
              have hbs := hbq.size
              have hwl := H.out.lt
              have R1 := Lib.hid (HG.out.put (k := t) htN HA2.out (by omega) (z' := upZ F (t + 1)) (fun q _ => by rw [← HT.out]; exact up_put q))
              go_roundw
              case rel => exact ⟨j + 1, by omega, by go_num, by rw [show i * C + (j + 1) = t + 1 by rw [HT.out]; rfl]; exact R1.out⟩
              case measure => simp [intOf]; omega
        · obtain rfl : j = C := by omega
          go_wp2_with fail
          go_roundw
          case rel => exact ⟨i + 1, by omega, by go_num, by rw [Nat.add_mul, Nat.one_mul]; exact H.out⟩
          case measure => simp [intOf]; omega
    · obtain rfl : i = R := by omega
      obtain ⟨y0, y1, y2⟩ := H.out.y
      obtain ⟨n0, n1, n2⟩ := H.out.m
      obtain ⟨f0, f1, f2⟩ := H.out.f
      go_wp2_with fail
      obtain ⟨r0, r1, r2, r3, r4⟩ := H.out.done
      refine bodyPost_ret (v := .tuple #[.agg #[.int .i64 i, .int .i64 C, .slice (some ⟨lb, 0, none⟩) (i * C) (i * C)], .int .i64 0]) ?_ rfl ⟨lb, nb, rfl, r3.congr fun q hq => (if_pos hq).trans (by rw [HFE.out]), r4⟩
      simp [results, Try.results16, go_sem, r0, r1, r2]
end Go.Proofs.Ytdlpemmoobbgnaa
