/- The walk of the law's same, where it answers yes. -/
import Derived.Test.YtdlpemmoobbgnaaS1
import Derived.Test.YtdlpemmoobbgnaaWakes
set_option linter.unusedVariables false
set_option linter.unusedSimpArgs false
namespace Go.Proofs.Ytdlpemmoobbgnaa
open Go.RowKit

theorem cellsOf (w : World) (l : List Value) (t : TypeId) : ∀ i y, l[i]? = some y → (w.alloc (.cells l.toArray t)).cell? ⟨w.heap.size, i, none⟩ = some y ∧ (w.alloc (.cells l.toArray t)).frozen? ⟨w.heap.size, i, none⟩ = false := by
  intro i y hy
  have h := heap_alloc_new w (.cells l.toArray t)
  refine ⟨by rw [cell_of_row _ _ _ _ _ _ h]; simpa using hy, ?_⟩
  unfold World.frozen?; simp only; rw [h]; simp

set_option maxHeartbeats 4000000 in
set_option maxRecDepth 100000 in
theorem same_yes (x y l l' : Value) (r c : Int) (n m : Nat) (X Y L L' : Nat → Raw) (W N E : Int) (ok : Bool) (w : World) (hx : RdL w x n X) (hy : RdL w y n Y) (h : ∀ i, i < n → RawEq (X i) (Y i)) (hl : RdL w l m L) (hl' : RdL w l' m L') (g : ∀ i, i < m → RawEq (L i) (L' i)) :
    Calls Try.prog 61 #[.agg #[.int .i64 r, .int .i64 c, x, l, .int .u64 W, .int .i64 N, .bool ok, .int .i64 E], .agg #[.int .i64 r, .int .i64 c, y, l', .int .u64 W, .int .i64 N, .bool ok, .int .i64 E]] w
      fun e w' => e = .returned (.bool true) ∧ Below w.heap.size w w' := by
  obtain ⟨a, cap, rfl, -⟩ := hx.slice
  obtain ⟨b, cap', rfl, -⟩ := hy.slice
  obtain ⟨a2, cap2, rfl, -⟩ := hl.slice
  obtain ⟨b2, cap2', rfl, -⟩ := hl'.slice
  obtain ⟨w1, hw1⟩ : ∃ w1, w1 = w.alloc (.cells #[.int .i64 r, .int .i64 c, .slice a n cap, .slice a2 m cap2, .int .u64 W, .int .i64 N, .bool ok, .int .i64 E] 92) := ⟨_, rfl⟩
  have z1 := cellsOf w [.int .i64 r, .int .i64 c, .slice a n cap, .slice a2 m cap2, .int .u64 W, .int .i64 N, .bool ok, .int .i64 E] 92
  have hb1 : Below w.heap.size w w1 := by rw [hw1]; exact (Below.refl _ _).alloc (Nat.le_refl _) _
  have hs1 : w1.heap.size = w.heap.size + 1 := by rw [hw1]; simp
  rw [← hw1] at z1
  obtain ⟨w2, hw2⟩ : ∃ w2, w2 = w1.alloc (.cells #[.int .i64 r, .int .i64 c, .slice b n cap', .slice b2 m cap2', .int .u64 W, .int .i64 N, .bool ok, .int .i64 E] 92) := ⟨_, rfl⟩
  have z2 := cellsOf w1 [.int .i64 r, .int .i64 c, .slice b n cap', .slice b2 m cap2', .int .u64 W, .int .i64 N, .bool ok, .int .i64 E] 92
  have hb2 : Below w1.heap.size w1 w2 := by rw [hw2]; exact (Below.refl _ _).alloc (Nat.le_refl _) _
  rw [← hw2, hs1] at z2
  have hb := hb1.trans (hb2.mono hb1.size)
  have x0 := cell_stays hb2 (z1 0 _ rfl).1
  have x1 := cell_stays hb2 (z1 1 _ rfl).1
  have x2 := cell_stays hb2 (z1 2 _ rfl).1
  have x3 := cell_stays hb2 (z1 3 _ rfl).1
  have x4 := cell_stays hb2 (z1 4 _ rfl).1
  have x5 := cell_stays hb2 (z1 5 _ rfl).1
  have x6 := cell_stays hb2 (z1 6 _ rfl).1
  have x7 := cell_stays hb2 (z1 7 _ rfl).1
  have y0 := (z2 0 _ rfl).1
  have y1 := (z2 1 _ rfl).1
  have y2 := (z2 2 _ rfl).1
  have y3 := (z2 3 _ rfl).1
  have y4 := (z2 4 _ rfl).1
  have y5 := (z2 5 _ rfl).1
  have y6 := (z2 6 _ rfl).1
  have y7 := (z2 7 _ rfl).1
  have HM := Lib.hid (alikeMats_yes _ _ r c n X Y _ (hx.below hb) (hy.below hb) h)
  have HL := Lib.hid (hl.below hb)
  have HL' := Lib.hid (hl'.below hb)
  have HG := Lib.hid g
  have HB := Lib.hid hb
  rw [hw2, hw1] at HM x0 x1 x2 x3 x4 x5 x6 x7 y0 y1 y2 y3 y4 y5 y6 y7 HL HL' HB
  clear hx hy h hl hl' g z1 z2 hb hb1 hb2 hw1 hw2 hs1
  go_enter Try.func61, Try.ntmps61
  go_wp2_with fail
  refine HM.out.mono ?_
  rintro e w4 ⟨rfl, hb4⟩
  have x3 := cell_stays hb4 x3
  have x4 := cell_stays hb4 x4
  have x5 := cell_stays hb4 x5
  have x6 := cell_stays hb4 x6
  have x7 := cell_stays hb4 x7
  have y3 := cell_stays hb4 y3
  have y4 := cell_stays hb4 y4
  have y5 := cell_stays hb4 y5
  have y6 := cell_stays hb4 y6
  have y7 := cell_stays hb4 y7
  have HR := Lib.hid (alikeRows_yes _ _ m L L' _ (HL.out.below hb4) (HL'.out.below hb4) HG.out)
  have HB4 := Lib.hid (HB.out.trans (hb4.mono HB.out.size))
  clear hb4 HM HL HL' HB
  go_wp2_with fail
  refine HR.out.mono ?_
  rintro e w5 ⟨rfl, hb5⟩
  have x4 := cell_stays hb5 x4
  have x5 := cell_stays hb5 x5
  have x6 := cell_stays hb5 x6
  have x7 := cell_stays hb5 x7
  have y4 := cell_stays hb5 y4
  have y5 := cell_stays hb5 y5
  have y6 := cell_stays hb5 y6
  have y7 := cell_stays hb5 y7
  have HB5 := Lib.hid (HB4.out.trans (hb5.mono HB4.out.size))
  clear hb5 HR
  go_wp2_with fail
  go_ret
  exact ⟨by simp, HB5.out⟩

end Go.Proofs.Ytdlpemmoobbgnaa
