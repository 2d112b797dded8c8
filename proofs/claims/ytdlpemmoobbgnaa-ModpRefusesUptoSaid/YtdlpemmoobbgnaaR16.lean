/- The walk of trellisref05.Trunc. -/
import Derived.Test.YtdlpemmoobbgnaaR15
import Derived.Deep.RegionWith
set_option linter.unusedVariables false
set_option linter.unusedSimpArgs false
namespace Go.Proofs.Ytdlpemmoobbgnaa
open Go.RowKit

theorem RdZ.zb {w : World} {v : Value} {z : Int} (h : RdZ w v z) : ∃ S, S ≤ 274877906944 ∧ ZB S z := by
  obtain ⟨r, h1, rfl, h2⟩ := h
  exact ⟨r.n, h2, h1.zb⟩

/-- four boxes of two cells, just made, the last two for results -/
theorem boxes4f (w : World) (a0 a1 b0 b1 d0 d1 c0 c1 : Value) (t : TypeId) :
    let W := (((w.alloc (.cells #[a0, a1] t)).alloc (.cells #[b0, b1] t)).alloc (.cells #[d0, d1] t)).alloc (.cells #[c0, c1] t)
    (W.cell? ⟨w.heap.size, 0, none⟩ = some a0 ∧ W.cell? ⟨w.heap.size, 1, none⟩ = some a1 ∧ W.cell? ⟨w.heap.size + 1, 0, none⟩ = some b0 ∧ W.cell? ⟨w.heap.size + 1, 1, none⟩ = some b1 ∧
      W.cell? ⟨w.heap.size + 1 + 1, 0, none⟩ = some d0 ∧ W.cell? ⟨w.heap.size + 1 + 1, 1, none⟩ = some d1 ∧ W.frozen? ⟨w.heap.size + 1 + 1, 0, none⟩ = false ∧ W.frozen? ⟨w.heap.size + 1 + 1, 1, none⟩ = false ∧
      W.cell? ⟨w.heap.size + 1 + 1 + 1, 0, none⟩ = some c0 ∧ W.cell? ⟨w.heap.size + 1 + 1 + 1, 1, none⟩ = some c1 ∧ W.frozen? ⟨w.heap.size + 1 + 1 + 1, 0, none⟩ = false ∧ W.frozen? ⟨w.heap.size + 1 + 1 + 1, 1, none⟩ = false) ∧
    Below w.heap.size w W ∧ W.heap.size = w.heap.size + 4 := by
  intro W
  obtain ⟨w3, h3⟩ : ∃ w3, w3 = ((w.alloc (.cells #[a0, a1] t)).alloc (.cells #[b0, b1] t)).alloc (.cells #[d0, d1] t) := ⟨_, rfl⟩
  obtain ⟨⟨x0, x1, y0, y1, z0, z1, z2, z3⟩, hb, hs⟩ := boxes3 w a0 a1 b0 b1 d0 d1 t
  rw [← h3] at x0 x1 y0 y1 z0 z1 z2 z3 hb hs
  have hW : W = w3.alloc (.cells #[c0, c1] t) := by rw [h3]
  have b3 : Below w3.heap.size w3 W := by rw [hW]; exact (Below.refl _ _).alloc (Nat.le_refl _) _
  have k3 := cells2 w3 c0 c1 t
  rw [← hW, hs] at k3
  have sW : W.heap.size = w.heap.size + 4 := by rw [hW]; simp [hs]
  clear_value W
  exact ⟨⟨cell_stays b3 x0, cell_stays b3 x1, cell_stays b3 y0, cell_stays b3 y1, cell_stays b3 z0, cell_stays b3 z1, froz_stays b3 z0 z2, froz_stays b3 z1 z3, (k3 0 _ rfl).1, (k3 1 _ rfl).1, (k3 0 _ rfl).2, (k3 1 _ rfl).2⟩, hb.trans (b3.mono (by omega)), sW⟩

theorem stored2_fr' {k : IntKind} {e : TypeId} {w3 : World} {base b : Nat} {x : Value} {n : Nat} {f : Nat → Int} (h : FrA k e w3 base x n f) (hb : b < base) (u v : Value) : FrA k e (stored2 w3 b u v) base x n f := by
  refine h.grown (stored2_gb w3 b u v) ?_
  cases hx : x.ownBlock with
  | none => exact Or.inl rfl
  | some k => right; have := (h.lt hx).1; intro e; injection e with e; omega
theorem stored2_below' {w w3 : World} (h : Below w.heap.size w w3) {b : Nat} (hb : w.heap.size ≤ b) (u v : Value) : Below w.heap.size w (stored2 w3 b u v) :=
  h.grown (stored2_gb w3 _ u v) h.size (fun k hk => by injection hk with hk; omega)

theorem truncZ (p q : Bool) {N M : Int} (hN : 0 ≤ N) (hM : 0 < M) :
    (if p then -N else N).tdiv (if q then -M else M) = (if (!(p == q)) = true then -(N / M) else N / M) ∧ (if p then -N else N).tmod (if q then -M else M) = (if p then -(N % M) else N % M) := by
  have e1 : N.tdiv M = N / M := Int.tdiv_eq_ediv_of_nonneg hN
  have e2 : N.tmod M = N % M := Int.tmod_eq_emod_of_nonneg hN
  cases p <;> cases q <;> simp [Int.neg_tdiv, Int.tdiv_neg, Int.neg_tmod, Int.tmod_neg, e1, e2]

set_option maxHeartbeats 1000000 in
theorem Trunc_any (x y : Value) (a b : Int) (w : World) (hb0 : b ≠ 0) (hx : RdZ w x a) (hy : RdZ w y b) :
    Calls Try.prog 101 #[x, y] w fun e w' => ∃ v1 v2, e = .returned (.tuple #[v1, v2, .int .i64 0]) ∧ FrZ w' w.heap.size v1 (a.tdiv b) ∧ FrZ w' w.heap.size v2 (a.tmod b) ∧ Below w.heap.size w w' := by
  obtain ⟨p, am, n, cm, f, rfl, hr, hn, ha⟩ := hx.parts
  obtain ⟨q, al, m, cl, g, rfl, hs, hm, hb'⟩ := hy.parts
  have hM : 0 < natFrom g 0 m := by
    have := (natFrom_bd hs.2).1
    rcases (by omega : natFrom g 0 m = 0 ∨ 0 < natFrom g 0 m) with h | h
    · exfalso; rw [h] at hb'; apply hb0; rw [hb']; split <;> rfl
    · exact h
  obtain ⟨e1, e2⟩ := truncZ p q (natFrom_bd hr.2).1 hM
  rw [← ha, ← hb'] at e1 e2
  obtain ⟨⟨x0, x1, y0, y1, t0, t1, t2, t3, z0, z1, z2, z3⟩, hb, hs4⟩ := boxes4f w (.bool p) (.slice am n cm) (.bool q) (.slice al m cl) (.bool false) (.slice none 0 0) (.bool false) (.slice none 0 0) 56
  have hdm := DivMod_any _ _ n m f g _ (by omega) (by omega) hM (hr.below hb) (hs.below hb)
  have HL1 := Lib.hid (natFrom_bd hr.2)
  have HL2 := Lib.hid (natFrom_bd hs.2)
  have HMM := Lib.hid hM
  generalize natFrom f 0 n = N at *
  generalize natFrom g 0 m = M at *
  have HDM := Lib.hid hdm
  have E1 := Lib.hid e1
  have E2 := Lib.hid e2
  have HB := Lib.hid hb
  have HS4 := Lib.hid hs4
  clear hx hy hr hs ha hb' hM hb hs4 hdm e1 e2 hb0
  go_enter Try.func101, Try.ntmps101
  go_wp2_with fail
  refine HDM.out.mono ?_
  rintro e w4 ⟨v1, v2, rfl, hf1, hf2, hb4⟩
  obtain ⟨a1, n1, c1, f1, rfl, h1, d1⟩ := hf1.nat
  obtain ⟨a2, n2, c2, f2, rfl, h2, d2⟩ := hf2.nat
  have hn1 : n1 ≤ 1099511627776 := by
    have h : N / M ≤ N := Int.ediv_le_self _ HL1.out.1
    have := d1.len (by omega) (Int.lt_of_le_of_lt h HL1.out.2); omega
  have hn2 : n2 ≤ 1099511627776 := by
    have h : N % M < M := Int.emod_lt_of_pos _ HMM.out
    have := d2.len (by omega) (Int.lt_trans h HL2.out.2); omega
  have x0 := cell_stays hb4 x0
  have y0 := cell_stays hb4 y0
  have t2 := froz_stays hb4 t0 t2
  have t3 := froz_stays hb4 t1 t3
  have t0 := cell_stays hb4 t0
  have t1 := cell_stays hb4 t1
  have z2 := froz_stays hb4 z0 z2
  have z3 := froz_stays hb4 z1 z3
  have z0 := cell_stays hb4 z0
  have z1 := cell_stays hb4 z1
  have H1 : Hid (RdW w4 (.slice a1 n1 c1) n1 f1) := ⟨h1.read, d1.words⟩
  have H2 : Hid (RdW w4 (.slice a2 n2 c2) n2 f2) := ⟨h2.read, d2.words⟩
  have HV1 : Hid (natFrom f1 0 n1 = N / M) := by show _ = _; rw [natFrom_dv0]; exact d1.val
  have HV2 : Hid (natFrom f2 0 n2 = N % M) := by show _ = _; rw [natFrom_dv0]; exact d2.val
  have HB4 := Lib.hid (HB.out.trans (hb4.mono HB.out.size))
  have hsz : w.heap.size + 4 ≤ w4.heap.size := by have := hb4.size; rw [HS4.out] at this; exact this
  clear hf1 hf2 h1 h2 d1 d2 hb4
  go_wp2_with fail
  have cm1 := made_any (!(p == q)) _ n1 f1 _ hn1 (H1.out.below (Below.refl w4.heap.size w4).drew)
  rw [HV1.out, ← E1.out] at cm1
  have CM1 := Lib.hid cm1
  clear cm1
  go_region_with ((go_at_call 70; first
    | ((with_reducible refine CM1.out.mono ?_); rintro e w5 ⟨v5, rfl, ⟨m5, n5, f5, rfl, h5, d5⟩, hb5⟩; obtain ⟨a5, c5, rfl⟩ := h5.slice; have x0 := cell_stays (w := w4.drew) hb5 x0; have y0 := cell_stays (w := w4.drew) hb5 y0; have H2 := Lib.hid ((H2.out.below (Below.refl w4.heap.size w4).drew).below hb5); have cm2 := made_any p _ n2 f2 _ hn2 H2.out; rw [HV2.out, ← E2.out] at cm2; have CM2 := Lib.hid cm2; clear cm2)
    | ((with_reducible refine CM2.out.mono ?_); rintro e w6 ⟨v6, rfl, ⟨m6, n6, f6, rfl, h6, d6⟩, hb6⟩; obtain ⟨a6, c6, rfl⟩ := h6.slice; have hb46 : Below w4.heap.size w4 w6 := (((Below.refl w4.heap.size w4).drew).trans hb5).trans (hb6.mono hb5.size); have t2 := froz_stays hb46 t0 t2; have t3 := froz_stays hb46 t1 t3; have t0 := cell_stays hb46 t0; have t1 := cell_stays hb46 t1; have z2 := froz_stays hb46 z0 z2; have z3 := froz_stays hb46 z1 z3; have z0 := cell_stays hb46 z0; have z1 := cell_stays hb46 z1)))
  all_goals
    have hbw6 : Below w.heap.size w w6 := HB4.out.trans (hb46.mono HB4.out.size)
    have k5 := (h5.below hb6).mono (base' := w.heap.size + 4) hsz
    have k6 := h6.mono (base' := w.heap.size + 4) (Nat.le_trans hsz hb5.size)
    have F5 := Lib.hid ((stored2_fr' (stored2_fr' k5 (b := w.heap.size + 1 + 1) (by omega) (.bool (decide (a.tdiv b < 0))) (.slice a5 n5 c5)) (b := w.heap.size + 1 + 1 + 1) (by omega) (.bool (decide (a.tmod b < 0))) (.slice a6 n6 c6)).mono (base' := w.heap.size) (by omega))
    have F6 := Lib.hid ((stored2_fr' (stored2_fr' k6 (b := w.heap.size + 1 + 1) (by omega) (.bool (decide (a.tdiv b < 0))) (.slice a5 n5 c5)) (b := w.heap.size + 1 + 1 + 1) (by omega) (.bool (decide (a.tmod b < 0))) (.slice a6 n6 c6)).mono (base' := w.heap.size) (by omega))
    have FB := Lib.hid (stored2_below' (stored2_below' hbw6 (b := w.heap.size + 1 + 1) (by omega) (.bool (decide (a.tdiv b < 0))) (.slice a5 n5 c5)) (b := w.heap.size + 1 + 1 + 1) (by omega) (.bool (decide (a.tmod b < 0))) (.slice a6 n6 c6))
    have D5 := Lib.hid d5
    have D6 := Lib.hid d6
    clear k5 k6 h5 h6 d5 d6 hb5 hb6 hb46 hbw6
    go_wp2_with fail
    refine bodyPost_ret (v := .tuple #[.agg #[.bool (decide (a.tdiv b < 0)), .slice a5 n5 c5], .agg #[.bool (decide (a.tmod b < 0)), .slice a6 n6 c6], .int .i64 0]) ?_ rfl ⟨_, _, rfl, ⟨_, n5, f5, rfl, F5.out, D5.out⟩, ⟨_, n6, f6, rfl, F6.out, D6.out⟩, FB.out⟩
    simp [results, Try.results101, go_sem, z0, z1, t0, t1]

end Go.Proofs.Ytdlpemmoobbgnaa
