/- The walk of trellisref05.Mod. -/
import Derived.Test.YtdlpemmoobbgnaaR17
set_option linter.unusedVariables false
set_option linter.unusedSimpArgs false
namespace Go.Proofs.Ytdlpemmoobbgnaa
open Go.RowKit

/-- a result box of two cells beside the parameters' -/
theorem boxes3f (w : World) (a0 a1 b0 b1 c0 c1 : Value) (t : TypeId) :
    let W := ((w.alloc (.cells #[a0, a1] t)).alloc (.cells #[b0, b1] t)).alloc (.cells #[c0, c1] t)
    (W.cell? ⟨w.heap.size, 0, none⟩ = some a0 ∧ W.cell? ⟨w.heap.size, 1, none⟩ = some a1 ∧ W.cell? ⟨w.heap.size + 1, 0, none⟩ = some b0 ∧ W.cell? ⟨w.heap.size + 1, 1, none⟩ = some b1 ∧
      W.cell? ⟨w.heap.size + 1 + 1, 0, none⟩ = some c0 ∧ W.cell? ⟨w.heap.size + 1 + 1, 1, none⟩ = some c1 ∧ W.frozen? ⟨w.heap.size + 1 + 1, 0, none⟩ = false ∧ W.frozen? ⟨w.heap.size + 1 + 1, 1, none⟩ = false) ∧
    Below w.heap.size w W ∧ W.heap.size = w.heap.size + 3 := boxes3 w a0 a1 b0 b1 c0 c1 t

set_option maxHeartbeats 1000000 in
theorem Mod_any (x y : Value) (a b : Int) (w : World) (hb0 : b ≠ 0) (hx : RdZ w x a) (hy : RdZ w y b) :
    Calls Try.prog 52 #[x, y] w fun e w' => ∃ v, e = .returned (.tuple #[v, .int .i64 0]) ∧ FrZ w' w.heap.size v (a % b) ∧ Below w.heap.size w w' := by
  obtain ⟨p, am, n, cm, f, rfl, -⟩ := hx.parts
  obtain ⟨q, al, m, cl, g, rfl, -⟩ := hy.parts
  obtain ⟨⟨x0, x1, y0, y1, z0, z1, z2, z3⟩, hb, hs3⟩ := boxes3 w (.bool p) (.slice am n cm) (.bool q) (.slice al m cl) (.bool false) (.slice none 0 0) 56
  have HEU := Lib.hid (Euclid_any _ _ a b _ hb0 (hx.below hb) (hy.below hb))
  have HB := Lib.hid hb
  have HS3 := Lib.hid hs3
  clear hx hy hb hs3 hb0
  generalize a % b = rr at *
  go_enter Try.func52, Try.ntmps52
  go_wp2_with fail
  refine HEU.out.mono ?_
  rintro e w4 ⟨v1, v2, qz, rfl, ⟨m1, n1, f1, rfl, h1, d1⟩, ⟨m2, n2, f2, rfl, h2, d2⟩, hb4⟩
  obtain ⟨a1, c1, rfl⟩ := h1.slice
  obtain ⟨a2, c2, rfl⟩ := h2.slice
  obtain ⟨⟨k0, k1, k2, k3, k4, k5⟩, hb5, hs5⟩ := boxes2 w4 (.bool (decide (qz < 0))) (.slice a1 n1 c1) (.bool (decide (rr < 0))) (.slice a2 n2 c2) 56
  have hb45 := hb4.trans (hb5.mono hb4.size)
  have z2 := froz_stays hb45 z0 z2
  have z3 := froz_stays hb45 z1 z3
  have z0 := cell_stays hb45 z0
  have z1 := cell_stays hb45 z1
  have hfr : FrZ _ (w.heap.size + 1 + 1 + 1) (.agg #[.bool (decide (rr < 0)), .slice a2 n2 c2]) rr := FrZ.below ⟨_, n2, f2, rfl, h2.mono (by rw [HS3.out]; omega), d2⟩ hb5
  have hbl := HB.out.trans (hb45.mono HB.out.size)
  have H1 := Lib.hid (hfr.stored' (b := w.heap.size + 1 + 1) (by omega) (.bool (decide (rr < 0))) (.slice a2 n2 c2))
  have H2 := Lib.hid (stored2_below' hbl (b := w.heap.size + 1 + 1) (by omega) (.bool (decide (rr < 0))) (.slice a2 n2 c2))
  clear h1 h2 d1 d2 hb4 hb5 hb45 hfr hbl hs5
  go_wp2_with fail
  refine bodyPost_ret (v := .tuple #[.agg #[.bool (decide (rr < 0)), .slice a2 n2 c2], .int .i64 0]) ?_ rfl ⟨_, rfl, H1.out.mono (by omega), H2.out⟩
  simp [results, Try.results52, go_sem, z0, z1]

end Go.Proofs.Ytdlpemmoobbgnaa
