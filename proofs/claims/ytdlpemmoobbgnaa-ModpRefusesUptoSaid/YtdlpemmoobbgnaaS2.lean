/- The walks of the law's least, zero (where they answer yes), and of. -/
import Derived.Test.YtdlpemmoobbgnaaS1
import Derived.Test.YtdlpemmoobbgnaaWakes
set_option linter.unusedVariables false
set_option linter.unusedSimpArgs false
namespace Go.Proofs.Ytdlpemmoobbgnaa
open Go.RowKit

/-- small from 0 on, below p, in least form -/
def SmallB (p : Int) (r : Raw) : Prop := r.neg = false ∧ (r.n = 0 ∨ (r.n = 1 ∧ 0 < r.f 0 ∧ r.f 0 < p))

theorem SmallB.small {p y : Int} (h0 : 0 ≤ y) (h1 : y < p) : SmallB p (small y) := by
  refine ⟨rfl, ?_⟩
  show w1 y = 0 ∨ (w1 y = 1 ∧ 0 < y ∧ y < p)
  unfold w1; split
  · exact Or.inl rfl
  · exact Or.inr ⟨rfl, by omega, h1⟩

set_option maxHeartbeats 1000000 in
set_option maxRecDepth 100000 in
theorem least_yes (x : Value) (n : Nat) (X : Nat → Raw) (p : Int) (w : World) (hx : RdL w x n X) (h : ∀ i, i < n → SmallB p (X i)) :
    Calls Try.prog 22 #[x, .int .u64 p] w fun e w' => e = .returned (.bool true) ∧ w = w' := by
  obtain ⟨a, cap, rfl, h1, h2, h3⟩ := hx
  have H3 := Lib.hid h3
  have HE := Lib.hid h
  clear h3 h
  go_enter Try.func22, Try.ntmps22
  go_wp2_with fail
  go_loop [5] (fun kv => ∃ k : Nat, k ≤ n ∧ kv = .int .i64 k) (fun kv => n - (intOf kv).toNat)
  case atStart => exact ⟨0, Nat.zero_le _, rfl⟩
  case round =>
    obtain ⟨k, k1, rfl⟩ := hrel
    by_cases hk : k < n
    · obtain ⟨b1, o1, rfl, hc⟩ := H3.out (by omega)
      obtain ⟨m1, c1, c2, c3⟩ := hc k hk
      obtain ⟨e1, e2⟩ := HE.out k hk
      obtain ⟨am, cm, rfl, q1, q2, q3⟩ := c3.1
      rw [e1] at c1
      clear hc c3
      rcases e2 with e2 | ⟨e2, p0, p1⟩
      · rw [e2] at c2
        have E2 := Lib.hid e2
        clear e2 q3 q1 q2
        go_wp2_with fail
        go_round
        case rel => exact ⟨k + 1, by omega, by go_num⟩
        case measure => simp [intOf]; omega
      · rw [e2] at c2 q3
        obtain ⟨b2, o2, eb, q5⟩ := q3 (by omega)
        subst eb
        have q4 := q5 0 (by omega)
        rw [Nat.add_zero] at q4
        generalize (X k).f 0 = y at q4 p0 p1
        have hy0 : (y == 0) = false := beq_eq_false_iff_ne.2 (by omega)
        have hyp : decide (p ≤ y) = false := by rw [decide_eq_false_iff_not]; omega
        have E2 := Lib.hid e2
        clear e2 q3 q5 q1 q2
        go_wp2_with fail
        go_round
        case rel => exact ⟨k + 1, by omega, by go_num⟩
        case measure => simp [intOf]; omega
    · go_wp2_with fail
      go_ret
      exact ⟨rfl, rfl⟩

/-- a box just made stays -/
theorem box_kept {w8 w9 : World} {t : TypeId} (h : Below (w8.alloc (.cells #[.bool false, .slice none 0 0] t)).heap.size (w8.alloc (.cells #[.bool false, .slice none 0 0] t)) w9) :
    w9.cell? ⟨w8.heap.size, 0, none⟩ = some (.bool false) ∧ w9.cell? ⟨w8.heap.size, 1, none⟩ = some (.slice none 0 0) ∧ w9.frozen? ⟨w8.heap.size, 0, none⟩ = false ∧ w9.frozen? ⟨w8.heap.size, 1, none⟩ = false := by
  have k := cells2 w8 (.bool false) (.slice none 0 0) t
  exact ⟨cell_stays h (k 0 _ rfl).1, cell_stays h (k 1 _ rfl).1, froz_stays h (k 0 _ rfl).1 (k 0 _ rfl).2, froz_stays h (k 1 _ rfl).1 (k 1 _ rfl).2⟩
theorem box_kept' {wr w9 : World} {t : TypeId} (h : Below (wr.alloc (.cells #[.bool false, .slice none 0 0] t)).drew.heap.size (wr.alloc (.cells #[.bool false, .slice none 0 0] t)).drew w9) :
    w9.cell? ⟨wr.heap.size, 0, none⟩ = some (.bool false) ∧ w9.cell? ⟨wr.heap.size, 1, none⟩ = some (.slice none 0 0) ∧ w9.frozen? ⟨wr.heap.size, 0, none⟩ = false ∧ w9.frozen? ⟨wr.heap.size, 1, none⟩ = false :=
  box_kept (w8 := wr) (below_drew h)
theorem kept4 {w8 w9 : World} {a b : Addr} {x y : Value} (h : Below w8.heap.size w8 w9) (j0 : w8.cell? a = some x) (j1 : w8.cell? b = some y) (j2 : w8.frozen? a = false) (j3 : w8.frozen? b = false) :
    w9.cell? a = some x ∧ w9.cell? b = some y ∧ w9.frozen? a = false ∧ w9.frozen? b = false := ⟨cell_stays h j0, cell_stays h j1, froz_stays h j0 j2, froz_stays h j1 j3⟩

/-- a number of one word -/
theorem ofZ_any (p : Int) (h0 : 0 ≤ p) (h1 : p ≤ 18446744073709551615) (w : World) :
    Calls Try.prog 37 #[.int .u64 p] w fun e w' => ∃ b, e = .returned (.agg #[.bool false, .slice (some ⟨b, 0, none⟩) 1 1]) ∧ RdZ w' (.agg #[.bool false, .slice (some ⟨b, 0, none⟩) 1 1]) p ∧ Below w.heap.size w w' := by
  refine (of_any p w).mono ?_
  rintro e w' ⟨b, rfl, hc, hb⟩
  refine ⟨b, rfl, ⟨⟨false, 1, fun _ => p⟩, ⟨_, rfl, ⟨_, 1, rfl, Nat.le_refl _, (by decide : (1 : Nat) ≤ 17592186044416), fun _ => ⟨b, 0, rfl, fun i hi => ?_⟩⟩, fun _ _ => ⟨h0, h1⟩⟩, ?_, (by decide : (1 : Nat) ≤ 274877906944)⟩, hb⟩
  · have hi : i < 1 := hi
    obtain rfl : i = 0 := by omega
    exact hc
  · simp [Raw.val, Raw.mag, natFrom]

theorem ModZ_any (x y : Value) (a b : Int) (w : World) (hb0 : b ≠ 0) (hx : RdZ w x a) (hy : RdZ w y b) (h : a % b = 0) :
    Calls Try.prog 52 #[x, y] w fun e w' => ∃ ar cr, e = .returned (.tuple #[.agg #[.bool false, .slice ar 0 cr], .int .i64 0]) ∧ Below w.heap.size w w' := by
  refine (Mod_any x y a b w hb0 hx hy).mono ?_
  rw [h]
  rintro e w' ⟨v, rfl, ⟨m, n, f, rfl, h1, h2⟩, hb⟩
  obtain ⟨ar, cr, rfl⟩ := h1.slice
  obtain rfl : n = 0 := (h2.zero_iff (by omega)).2 rfl
  exact ⟨ar, cr, rfl, hb⟩

set_option maxHeartbeats 4000000 in
set_option maxRecDepth 100000 in
theorem zero_yes (x : Value) (n : Nat) (X : Nat → Raw) (p : Int) (hp : 0 < p) (hp1 : p ≤ 18446744073709551615) (w : World) (hx : RdL w x n X) (h : ∀ i, i < n → (X i).n ≤ 274877906944 ∧ (X i).val % p = 0) :
    Calls Try.prog 24 #[x, .int .u64 p] w fun e w' => e = .returned (.bool true) ∧ Below w.heap.size w w' := by
  obtain ⟨a, cap, rfl, h1, h2, h3⟩ := hx
  have H3 := Lib.hid h3
  have HE := Lib.hid h
  clear h3 h
  go_enter Try.func24, Try.ntmps24
  go_wp2_with fail
  go_loopw [5] (fun kv wr => ∃ k : Nat, k ≤ n ∧ kv = .int .i64 k ∧ Below w.heap.size w wr) (fun kv _ => n - (intOf kv).toNat)
  case atStart => exact ⟨0, Nat.zero_le _, rfl, Below.refl _ _⟩
  case round =>
    obtain ⟨k, k1, rfl, hb⟩ := hrel
    by_cases hk : k < n
    · obtain ⟨b1, o1, rfl, hc⟩ := H3.out (by omega)
      obtain ⟨m1, c1, c2, c3⟩ := hc k hk
      obtain ⟨e1, e2⟩ := HE.out k hk
      have hrz : RdZ wr (.agg #[.bool (X k).neg, m1]) (X k).val := ⟨X k, ⟨m1, rfl, c3.below hb⟩, rfl, e1⟩
      obtain ⟨am, cm, rfl, -⟩ := c3.1
      have c1 := cell_stays hb c1
      have c2 := cell_stays hb c2
      have HRZ := Lib.hid hrz
      have HE2 := Lib.hid e2
      have cm1 : ∀ W, Below wr.heap.size wr W → Calls Try.prog 37 #[.int .u64 p] W fun e w' => ∃ b, e = .returned (.agg #[.bool false, .slice (some ⟨b, 0, none⟩) 1 1]) ∧ RdZ w' (.agg #[.bool false, .slice (some ⟨b, 0, none⟩) 1 1]) p ∧ Below wr.heap.size wr w' ∧ Below W.heap.size W w' := fun W hW => by
        refine (ofZ_any p (by omega) hp1 W).mono ?_
        rintro e w' ⟨b, h1, h2, h3⟩
        exact ⟨b, h1, h2, hW.trans (h3.mono hW.size), h3⟩
      have CM1 := Lib.hid cm1
      have cm2 : ∀ W (y : Value), Below wr.heap.size wr W → RdZ W y p → Calls Try.prog 52 #[.agg #[.bool (X k).neg, .slice am (X k).n cm], y] W fun e w' => ∃ ar cr, e = .returned (.tuple #[.agg #[.bool false, .slice ar 0 cr], .int .i64 0]) ∧ Below wr.heap.size wr w' ∧ Below W.heap.size W w' := fun W y hW hy => by
        refine (ModZ_any _ _ _ _ W (by omega) (HRZ.out.below hW) hy HE2.out).mono ?_
        rintro e w' ⟨ar, cr, h1, h3⟩
        exact ⟨ar, cr, h1, hW.trans (h3.mono hW.size), h3⟩
      have CM2 := Lib.hid cm2
      clear cm2
      generalize (X k).neg = ng at *
      generalize (X k).n = nn at *
      clear hc c3 hrz e1 e2 cm1
      have f1 : b1 < wr.heap.size := World.block_lt_of_cell? wr _ c1
      go_wp2_with fail
      go_region_with ((first
        | (go_at_call 37; (with_reducible refine (CM1.out wr.drew ?_).mono ?_); exact (Below.refl _ _).drew; rintro e w8 ⟨b8, rfl, hz8, hb8, hc8⟩; have HZ8 := Lib.hid hz8; clear hz8; have f8 := Nat.lt_of_lt_of_le f1 hb8.size; have c1 := cell_stays hb8 c1; have c2 := cell_stays hb8 c2)
        | (go_at_call 37; (with_reducible refine (CM1.out (wr.alloc (.cells #[.bool false, .slice none 0 0] 56)).drew ?_).mono ?_); exact ((Below.refl _ _).alloc (Nat.le_refl _) _).drew; rintro e w7 ⟨b8, rfl, hz8, hb8, hc8⟩; have HZ8 := Lib.hid hz8; clear hz8; have f8 := Nat.lt_of_lt_of_le f1 hb8.size; have c1 := cell_stays hb8 c1; have c2 := cell_stays hb8 c2; obtain ⟨j0, j1, j2, j3⟩ := box_kept' hc8)
        | (go_at_call 52; (with_reducible refine (CM2.out w8 _ hb8 HZ8.out).mono ?_); rintro e w9 ⟨ar, cr, rfl, hb9, hc9⟩)
        | (go_at_call 52; (with_reducible refine (CM2.out (w8.alloc (.cells #[.bool false, .slice none 0 0] 56)) _ (hb8.alloc hb8.size _) (HZ8.out.below ((Below.refl _ _).alloc (Nat.le_refl _) _))).mono ?_); rintro e w9 ⟨ar, cr, rfl, hb9, hc9⟩; obtain ⟨j0, j1, j2, j3⟩ := box_kept hc9)
        | (go_at_call 52; (with_reducible refine (CM2.out w7 _ hb8 HZ8.out).mono ?_); rintro e w9 ⟨ar, cr, rfl, hb9, hc9⟩; obtain ⟨j0, j1, j2, j3⟩ := kept4 hc9 j0 j1 j2 j3)))
      all_goals
        have HB9 := Lib.hid (hb.trans (hb9.mono hb.size))
        have q1 := hb.size
        have q2 := hb8.size
        clear hb8 hb9 hc8 hc9 CM1 CM2
        go_wp2_with fail
        go_roundw
        case rel =>
          refine ⟨k + 1, by omega, by go_num, ?_⟩
          first
            | exact HB9.out.alloc HB9.out.size _
            | exact (HB9.out.setCell (by simp; omega) _).setCell (by simp; omega) _
        case measure => simp [intOf]; omega
    · go_wp2_with fail
      go_ret
      exact ⟨rfl, hb⟩

end Go.Proofs.Ytdlpemmoobbgnaa
