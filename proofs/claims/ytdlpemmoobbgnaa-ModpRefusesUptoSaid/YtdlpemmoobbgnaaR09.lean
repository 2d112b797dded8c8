/- The walks of trellisref05.Mul, MulAdd. -/
import Derived.Test.YtdlpemmoobbgnaaR08
set_option linter.unusedVariables false
set_option linter.unusedSimpArgs false
namespace Go.Proofs.Ytdlpemmoobbgnaa
open Go.RowKit

theorem mulZ (p q : Bool) (N M : Int) : (if p then -N else N) * (if q then -M else M) = if (p != q) then -(N * M) else N * M := by
  cases p <;> cases q <;> simp <;> grind

set_option maxHeartbeats 1000000 in
theorem Mul05_any (x y : Value) (a b : Int) (w : World) (hx : RdZ w x a) (hy : RdZ w y b) :
    Calls Try.prog 69 #[x, y] w fun e w' => ∃ v, e = .returned v ∧ FrZ w' w.heap.size v (a * b) ∧ Below w.heap.size w w' := by
  obtain ⟨p, am, n, cm, f, rfl, hr, hn, ha⟩ := hx.parts
  obtain ⟨q, al, m, cl, g, rfl, hs, hm, hb'⟩ := hy.parts
  obtain ⟨⟨x0, x1, y0, y1, z0, z1, z2, z3⟩, hb, hs3⟩ := boxes3 w (.bool p) (.slice am n cm) (.bool q) (.slice al m cl) (.bool false) (.slice none 0 0) 56
  have hmul := Mul02_any _ _ n m f g _ hn hm (hr.below hb) (hs.below hb)
  have hz : a * b = if (p != q) then -(natFrom f 0 n * natFrom g 0 m) else natFrom f 0 n * natFrom g 0 m := by rw [ha, hb', mulZ]
  have hlt : natFrom f 0 n * natFrom g 0 m < 18446744073709551616 ^ (n + m) := by
    have h1 := natFrom_bd hr.2
    have h2 := natFrom_bd hs.2
    rw [Int.pow_add]
    have h3 := pow_pos' (show (0 : Int) < 18446744073709551616 by omega) m
    have h4 : natFrom f 0 n * natFrom g 0 m ≤ natFrom f 0 n * 18446744073709551616 ^ m := Int.mul_le_mul_of_nonneg_left (by omega) h1.1
    have h5 : natFrom f 0 n * (18446744073709551616 : Int) ^ m < 18446744073709551616 ^ n * 18446744073709551616 ^ m := Int.mul_lt_mul_of_pos_right h1.2 h3
    omega
  generalize natFrom f 0 n * natFrom g 0 m = N at hmul hz hlt
  obtain ⟨z, hze⟩ : ∃ z, z = a * b := ⟨_, rfl⟩
  rw [← hze] at hz ⊢
  have HMUL := Lib.hid hmul
  have HZ := Lib.hid hz
  have HLT := Lib.hid hlt
  have HB := Lib.hid hb
  have HS3 := Lib.hid hs3
  clear hx hy hr hs ha hb' hb hs3 hmul hz hlt hze
  go_enter Try.func69, Try.ntmps69
  go_wp2_with fail
  refine HMUL.out.mono ?_
  rintro e w4 ⟨v4, rfl, hfn, hb4⟩
  obtain ⟨a4, n4, cap4, f4, rfl, h1, h2⟩ := hfn.nat
  have hn4 : n4 ≤ 1099511627776 := by have := h2.len (by omega) HLT.out; omega
  have z0' := z0
  have z1' := z1
  have z0 := cell_stays hb4 z0
  have z1 := cell_stays hb4 z1
  have z2 := froz_stays hb4 z0' z2
  have z3 := froz_stays hb4 z1' z3
  have x0 := cell_stays hb4 x0
  have y0 := cell_stays hb4 y0
  have hmk := made_any (p != q) (.slice a4 n4 cap4) n4 f4 w4 hn4 ⟨h1.read, h2.words⟩
  rw [natFrom_dv0, h2.val, ← HZ.out] at hmk
  have HMK := Lib.hid hmk
  have HBW4 := Lib.hid (HB.out.trans (hb4.mono (HB.out.size)))
  have HSZ := Lib.hid hb4.size
  clear h1 h2 hfn hmk hb4 z0' z1'
  go_wp2_with fail
  refine HMK.out.mono ?_
  rintro e w5 ⟨v5, rfl, hz, hb5⟩
  have z0' := z0
  have z1' := z1
  have z0 := cell_stays hb5 z0
  have z1 := cell_stays hb5 z1
  have z2 := froz_stays hb5 z0' z2
  have z3 := froz_stays hb5 z1' z3
  have HBW5 := Lib.hid (HBW4.out.trans (hb5.mono HBW4.out.size))
  obtain ⟨aq, nq, cq, rfl, hst⟩ := FrZ.stored (b := w.heap.size + 1 + 1) (hz.mono (by have := HS3.out; have := HSZ.out; omega))
  have hbl : Below w.heap.size w (stored2 w5 (w.heap.size + 1 + 1) (.bool (decide (z < 0))) (.slice aq nq cq)) := HBW5.out.grown (stored2_gb _ _ _ _) HBW5.out.size (fun k hk => by injection hk with hk; omega)
  have HST := Lib.hid (hst.mono (show w.heap.size ≤ w.heap.size + 1 + 1 by omega))
  have HBL := Lib.hid hbl
  clear hz hst hbl hb5 z0' z1'
  go_wp2_with fail
  refine bodyPost_ret (v := .agg #[.bool (decide (z < 0)), .slice aq nq cq]) ?_ rfl ⟨_, rfl, HST.out, HBL.out⟩
  simp [results, Try.results69, go_sem, z0, z1]

/-- four boxes of two cells, just made -/
theorem boxes4 (w : World) (a0 a1 b0 b1 d0 d1 c0 c1 : Value) (t : TypeId) :
    let W := (((w.alloc (.cells #[a0, a1] t)).alloc (.cells #[b0, b1] t)).alloc (.cells #[d0, d1] t)).alloc (.cells #[c0, c1] t)
    (W.cell? ⟨w.heap.size, 0, none⟩ = some a0 ∧ W.cell? ⟨w.heap.size, 1, none⟩ = some a1 ∧ W.cell? ⟨w.heap.size + 1, 0, none⟩ = some b0 ∧ W.cell? ⟨w.heap.size + 1, 1, none⟩ = some b1 ∧
      W.cell? ⟨w.heap.size + 1 + 1, 0, none⟩ = some d0 ∧ W.cell? ⟨w.heap.size + 1 + 1, 1, none⟩ = some d1 ∧
      W.cell? ⟨w.heap.size + 1 + 1 + 1, 0, none⟩ = some c0 ∧ W.cell? ⟨w.heap.size + 1 + 1 + 1, 1, none⟩ = some c1 ∧ W.frozen? ⟨w.heap.size + 1 + 1 + 1, 0, none⟩ = false ∧ W.frozen? ⟨w.heap.size + 1 + 1 + 1, 1, none⟩ = false) ∧
    Below w.heap.size w W ∧ W.heap.size = w.heap.size + 4 := by
  intro W
  obtain ⟨w3, h3⟩ : ∃ w3, w3 = ((w.alloc (.cells #[a0, a1] t)).alloc (.cells #[b0, b1] t)).alloc (.cells #[d0, d1] t) := ⟨_, rfl⟩
  obtain ⟨⟨x0, x1, y0, y1, z0, z1, -, -⟩, hb, hs⟩ := boxes3 w a0 a1 b0 b1 d0 d1 t
  rw [← h3] at x0 x1 y0 y1 z0 z1 hb hs
  have hW : W = w3.alloc (.cells #[c0, c1] t) := by rw [h3]
  have b3 : Below w3.heap.size w3 W := by rw [hW]; exact (Below.refl _ _).alloc (Nat.le_refl _) _
  have k3 := cells2 w3 c0 c1 t
  rw [← hW, hs] at k3
  have sW : W.heap.size = w.heap.size + 4 := by rw [hW]; simp [hs]
  clear_value W
  exact ⟨⟨cell_stays b3 x0, cell_stays b3 x1, cell_stays b3 y0, cell_stays b3 y1, cell_stays b3 z0, cell_stays b3 z1, (k3 0 _ rfl).1, (k3 1 _ rfl).1, (k3 0 _ rfl).2, (k3 1 _ rfl).2⟩, hb.trans (b3.mono (by omega)), sW⟩

set_option maxHeartbeats 1000000 in
theorem MulAdd05_any (x y u : Value) (a b c : Int) (S : Nat) (hS : S ≤ 274877906944) (hab : ZB S (a * b)) (w : World) (hx : RdZ w x a) (hy : RdZ w y b) (hu : RdZ w u c) :
    Calls Try.prog 40 #[x, y, u] w fun e w' => ∃ v, e = .returned v ∧ FrZ w' w.heap.size v (a * b + c) ∧ Below w.heap.size w w' := by
  obtain ⟨p, am, n, cm, f, rfl, -⟩ := hx.parts
  obtain ⟨q, al, m, cl, g, rfl, -⟩ := hy.parts
  obtain ⟨r, ao, l, co, h, rfl, -⟩ := hu.parts
  obtain ⟨⟨x0, x1, y0, y1, t0, t1, z0, z1, z2, z3⟩, hb, hs3⟩ := boxes4 w (.bool p) (.slice am n cm) (.bool q) (.slice al m cl) (.bool r) (.slice ao l co) (.bool false) (.slice none 0 0) 56
  have HMUL := Lib.hid (Mul05_any _ _ _ _ _ (hx.below hb) (hy.below hb))
  have HU := Lib.hid (hu.below hb)
  have HZB := Lib.hid hab
  have HB := Lib.hid hb
  have HS3 := Lib.hid hs3
  clear hx hy hu hab hb hs3
  go_enter Try.func40, Try.ntmps40
  go_wp2_with fail
  refine HMUL.out.mono ?_
  rintro e w4 ⟨v4, rfl, hz, hb4⟩
  have hrd := hz.rd HZB.out hS
  obtain ⟨mv, n4, f4, rfl, h1, h2⟩ := hz
  obtain ⟨a4, cap4, rfl⟩ := h1.slice
  have z0' := z0
  have z1' := z1
  have z0 := cell_stays hb4 z0
  have z1 := cell_stays hb4 z1
  have z2 := froz_stays hb4 z0' z2
  have z3 := froz_stays hb4 z1' z3
  have t0 := cell_stays hb4 t0
  have t1 := cell_stays hb4 t1
  have hb5 : Below w4.heap.size w4 (w4.alloc (.cells #[.bool (decide (a * b < 0)), .slice a4 n4 cap4] 56)) := (Below.refl _ _).alloc (Nat.le_refl _) _
  have hadd := Add05_any _ _ _ _ _ (hrd.below hb5) ((HU.out.below hb4).below hb5)
  have z0' := z0
  have z1' := z1
  have z0 := cell_stays hb5 z0
  have z1 := cell_stays hb5 z1
  have z2 := froz_stays hb5 z0' z2
  have z3 := froz_stays hb5 z1' z3
  have t0 := cell_stays hb5 t0
  have t1 := cell_stays hb5 t1
  have HADD := Lib.hid hadd
  have HB5 := Lib.hid ((HB.out.trans (hb4.mono HB.out.size)).trans (hb5.mono (Nat.le_trans HB.out.size hb4.size)))
  have HSZ := Lib.hid (Nat.le_trans hb4.size hb5.size)
  clear h1 h2 hrd hb4 hb5 hadd z0' z1'
  go_wp2_with fail
  refine HADD.out.mono ?_
  rintro e w5 ⟨v5, rfl, hz, hb5⟩
  have z0' := z0
  have z1' := z1
  have z0 := cell_stays hb5 z0
  have z1 := cell_stays hb5 z1
  have z2 := froz_stays hb5 z0' z2
  have z3 := froz_stays hb5 z1' z3
  have HBW5 := Lib.hid (HB5.out.trans (hb5.mono HB5.out.size))
  obtain ⟨aq, nq, cq, rfl, hst⟩ := FrZ.stored (b := w.heap.size + 1 + 1 + 1) (hz.mono (by have := HS3.out; have := HSZ.out; omega))
  have hbl : Below w.heap.size w (stored2 w5 (w.heap.size + 1 + 1 + 1) (.bool (decide (a * b + c < 0))) (.slice aq nq cq)) := HBW5.out.grown (stored2_gb _ _ _ _) HBW5.out.size (fun k hk => by injection hk with hk; omega)
  have HST := Lib.hid (hst.mono (show w.heap.size ≤ w.heap.size + 1 + 1 + 1 by omega))
  have HBL := Lib.hid hbl
  clear hz hst hbl hb5 z0' z1'
  go_wp2_with fail
  refine bodyPost_ret (v := .agg #[.bool (decide (a * b + c < 0)), .slice aq nq cq]) ?_ rfl ⟨_, rfl, HST.out, HBL.out⟩
  simp [results, Try.results40, go_sem, z0, z1]

end Go.Proofs.Ytdlpemmoobbgnaa
